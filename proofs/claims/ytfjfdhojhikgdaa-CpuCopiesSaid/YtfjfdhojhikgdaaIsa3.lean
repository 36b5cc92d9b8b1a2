/- What isa.Word and isa.Of return, by walks over their text (written by gen_isa3.py). -/
import Derived.Test.YtfjfdhojhikgdaaIsa2
namespace Go.Proofs.Ytfjfdhojhikgdaa
set_option linter.unusedSimpArgs false
set_option linter.unusedVariables false
open Go.RowKit
set_option maxHeartbeats 4000000

/-- The word of an instruction's parts; of the first k of them. -/
def sumI (o a b c m : Int) (k : Nat) : Int := if k = 0 then 0 else if k = 1 then o else if k = 2 then o + 256 * a else if k = 3 then o + 256 * a + 2048 * b else if k = 4 then o + 256 * a + 2048 * b + 16384 * c else o + 256 * a + 2048 * b + 16384 * c + 16777216 * m
theorem put12_0 (o a b c m : Int) (h0 : 0 ≤ o) (h1 : o < 256) (a0 : 0 ≤ a) (a1 : a < 8) (b0 : 0 ≤ b) (b1 : b < 8) (c0 : 0 ≤ c) (c1 : c < 8) (m0 : 0 ≤ m) (m1 : m < 65536) : Pl.put (0 : Int) o (Int.toNat 0) (Int.toNat 8) = o := by
  simp only [Pl.put, show Int.toNat 0 = 0 from rfl, show Int.toNat 8 = 8 from rfl]
  omega
theorem put12_1 (o a b c m : Int) (h0 : 0 ≤ o) (h1 : o < 256) (a0 : 0 ≤ a) (a1 : a < 8) (b0 : 0 ≤ b) (b1 : b < 8) (c0 : 0 ≤ c) (c1 : c < 8) (m0 : 0 ≤ m) (m1 : m < 65536) : Pl.put o a (Int.toNat 8) (Int.toNat 3) = (o + 256 * a) := by
  simp only [Pl.put, show Int.toNat 8 = 8 from rfl, show Int.toNat 3 = 3 from rfl]
  omega
theorem put12_2 (o a b c m : Int) (h0 : 0 ≤ o) (h1 : o < 256) (a0 : 0 ≤ a) (a1 : a < 8) (b0 : 0 ≤ b) (b1 : b < 8) (c0 : 0 ≤ c) (c1 : c < 8) (m0 : 0 ≤ m) (m1 : m < 65536) : Pl.put (o + 256 * a) b (Int.toNat 11) (Int.toNat 3) = (o + 256 * a + 2048 * b) := by
  simp only [Pl.put, show Int.toNat 11 = 11 from rfl, show Int.toNat 3 = 3 from rfl]
  omega
theorem put12_3 (o a b c m : Int) (h0 : 0 ≤ o) (h1 : o < 256) (a0 : 0 ≤ a) (a1 : a < 8) (b0 : 0 ≤ b) (b1 : b < 8) (c0 : 0 ≤ c) (c1 : c < 8) (m0 : 0 ≤ m) (m1 : m < 65536) : Pl.put (o + 256 * a + 2048 * b) c (Int.toNat 14) (Int.toNat 3) = (o + 256 * a + 2048 * b + 16384 * c) := by
  simp only [Pl.put, show Int.toNat 14 = 14 from rfl, show Int.toNat 3 = 3 from rfl]
  omega
theorem put12_4 (o a b c m : Int) (h0 : 0 ≤ o) (h1 : o < 256) (a0 : 0 ≤ a) (a1 : a < 8) (b0 : 0 ≤ b) (b1 : b < 8) (c0 : 0 ≤ c) (c1 : c < 8) (m0 : 0 ≤ m) (m1 : m < 65536) : Pl.put (o + 256 * a + 2048 * b + 16384 * c) m (Int.toNat 24) (Int.toNat 16) = (o + 256 * a + 2048 * b + 16384 * c + 16777216 * m) := by
  simp only [Pl.put, show Int.toNat 24 = 24 from rfl, show Int.toNat 16 = 16 from rfl]
  omega

set_option maxRecDepth 100000 in
theorem word12_yes (o a b c m : Int) (w : World) (h0 : 0 ≤ o) (h1 : o < 256) (a0 : 0 ≤ a) (a1 : a < 8) (b0 : 0 ≤ b) (b1 : b < 8) (c0 : 0 ≤ c) (c1 : c < 8) (m0 : 0 ≤ m) (m1 : m < 65536) (hr : rightI o a b c m = true) :
    Calls Try.prog 28 #[.agg #[.int .i64 o, .int .i64 a, .int .i64 b, .int .i64 c, .int .i64 m]] w fun e w' => e = .returned (.tuple #[.int .u64 (o + 256 * a + 2048 * b + 16384 * c + 16777216 * m), .int .i64 0]) ∧ Below w.heap.size w w' := by
  obtain ⟨i0, i1, i2, i3, i4⟩ := fields_at
  obtain ⟨j0, j1, j2, j3, j4⟩ := parts_at o a b c m
  have HR := Lib.hid hr
  clear hr
  go_enter Try.func28, Try.ntmps28
  go_wp2_with (fail)
  refine (right_any12 _ _ _ _ _ _ h0 a0 a1 b0 b1 c0 c1 m0 m1).mono ?_
  rintro e w1 ⟨rfl, hb1⟩
  rw [HR.out]
  have k1 : Below w.heap.size w w1 := Below.trans ((Below.refl _ _).alloc (Nat.le_refl _) _) (hb1.mono (by simp))
  have q0 : w1.cell? ⟨w.heap.size, 0, none⟩ = some (.int .i64 o) := keep hb1 (by simp <;> omega) (by simp [go_sem])
  have q1 : w1.cell? ⟨w.heap.size, 1, none⟩ = some (.int .i64 a) := keep hb1 (by simp <;> omega) (by simp [go_sem])
  have q2 : w1.cell? ⟨w.heap.size, 2, none⟩ = some (.int .i64 b) := keep hb1 (by simp <;> omega) (by simp [go_sem])
  have q3 : w1.cell? ⟨w.heap.size, 3, none⟩ = some (.int .i64 c) := keep hb1 (by simp <;> omega) (by simp [go_sem])
  have q4 : w1.cell? ⟨w.heap.size, 4, none⟩ = some (.int .i64 m) := keep hb1 (by simp <;> omega) (by simp [go_sem])
  go_wp2_with (fail)
  refine (split_any _ _ _ _ _ _).mono ?_
  rintro e w2 ⟨rfl, hb2⟩
  have k2 : Below w.heap.size w w2 := k1.trans (hb2.mono k1.size)
  go_wp2_with (fail)
  go_loopw [4, 13] (fun v i wr => ∃ k : Nat, k ≤ 5 ∧ i = .int .i64 k ∧ v = .int .u64 (sumI o a b c m k) ∧ Below w.heap.size w wr) (fun _ i _ => 5 - (intOf i).toNat)
  case atStart => exact ⟨0, by omega, rfl, rfl, k2⟩
  case round =>
    obtain ⟨k, hk, rfl, rfl, kr⟩ := hrel
    have hc : k = 0 ∨ k = 1 ∨ k = 2 ∨ k = 3 ∨ k = 4 ∨ k = 5 := by omega
    rcases hc with rfl | rfl | rfl | rfl | rfl | rfl
    · have HP := Lib.hid (put12_0 o a b c m h0 h1 a0 a1 b0 b1 c0 c1 m0 m1)
      rw [show sumI o a b c m 0 = (0 : Int) from rfl]
      go_wp2_with (fail)
      refine (fields12_any _).mono ?_
      rintro e w3 ⟨rfl, hb3⟩
      have k3 := kr.trans (hb3.mono kr.size)
      go_wp2_with (fail)
      refine (put_yes _ _ _ _ _ (by omega) (by omega) (by omega) (by omega) (by omega) (by omega) (by show _ < (_ : Int); simp; omega)).mono ?_
      rintro e w4 ⟨rfl, nq, rfl⟩
      rw [HP.out]
      go_wp2_with (fail)
      go_roundw
      case rel => exact ⟨1, by omega, rfl, rfl, below_drewN (k3.alloc k3.size _) _⟩
      case measure => simp [intOf]
    · have HP := Lib.hid (put12_1 o a b c m h0 h1 a0 a1 b0 b1 c0 c1 m0 m1)
      rw [show sumI o a b c m 1 = o from rfl]
      go_wp2_with (fail)
      refine (fields12_any _).mono ?_
      rintro e w3 ⟨rfl, hb3⟩
      have k3 := kr.trans (hb3.mono kr.size)
      go_wp2_with (fail)
      refine (put_yes _ _ _ _ _ (by omega) (by omega) (by omega) (by omega) (by omega) (by omega) (by show _ < (_ : Int); simp; omega)).mono ?_
      rintro e w4 ⟨rfl, nq, rfl⟩
      rw [HP.out]
      go_wp2_with (fail)
      go_roundw
      case rel => exact ⟨2, by omega, rfl, rfl, below_drewN (k3.alloc k3.size _) _⟩
      case measure => simp [intOf]
    · have HP := Lib.hid (put12_2 o a b c m h0 h1 a0 a1 b0 b1 c0 c1 m0 m1)
      rw [show sumI o a b c m 2 = (o + 256 * a) from rfl]
      go_wp2_with (fail)
      refine (fields12_any _).mono ?_
      rintro e w3 ⟨rfl, hb3⟩
      have k3 := kr.trans (hb3.mono kr.size)
      go_wp2_with (fail)
      refine (put_yes _ _ _ _ _ (by omega) (by omega) (by omega) (by omega) (by omega) (by omega) (by show _ < (_ : Int); simp; omega)).mono ?_
      rintro e w4 ⟨rfl, nq, rfl⟩
      rw [HP.out]
      go_wp2_with (fail)
      go_roundw
      case rel => exact ⟨3, by omega, rfl, rfl, below_drewN (k3.alloc k3.size _) _⟩
      case measure => simp [intOf]
    · have HP := Lib.hid (put12_3 o a b c m h0 h1 a0 a1 b0 b1 c0 c1 m0 m1)
      rw [show sumI o a b c m 3 = (o + 256 * a + 2048 * b) from rfl]
      go_wp2_with (fail)
      refine (fields12_any _).mono ?_
      rintro e w3 ⟨rfl, hb3⟩
      have k3 := kr.trans (hb3.mono kr.size)
      go_wp2_with (fail)
      refine (put_yes _ _ _ _ _ (by omega) (by omega) (by omega) (by omega) (by omega) (by omega) (by show _ < (_ : Int); simp; omega)).mono ?_
      rintro e w4 ⟨rfl, nq, rfl⟩
      rw [HP.out]
      go_wp2_with (fail)
      go_roundw
      case rel => exact ⟨4, by omega, rfl, rfl, below_drewN (k3.alloc k3.size _) _⟩
      case measure => simp [intOf]
    · have HP := Lib.hid (put12_4 o a b c m h0 h1 a0 a1 b0 b1 c0 c1 m0 m1)
      rw [show sumI o a b c m 4 = (o + 256 * a + 2048 * b + 16384 * c) from rfl]
      go_wp2_with (fail)
      refine (fields12_any _).mono ?_
      rintro e w3 ⟨rfl, hb3⟩
      have k3 := kr.trans (hb3.mono kr.size)
      go_wp2_with (fail)
      refine (put_yes _ _ _ _ _ (by omega) (by omega) (by omega) (by omega) (by omega) (by omega) (by show _ < (_ : Int); simp; omega)).mono ?_
      rintro e w4 ⟨rfl, nq, rfl⟩
      rw [HP.out]
      go_wp2_with (fail)
      go_roundw
      case rel => exact ⟨5, by omega, rfl, rfl, below_drewN (k3.alloc k3.size _) _⟩
      case measure => simp [intOf]
    · rw [show sumI o a b c m 5 = (o + 256 * a + 2048 * b + 16384 * c + 16777216 * m) from rfl]
      go_wp2_with (fail)
      go_ret2
      exact ⟨rfl, kr⟩

theorem word12_no (o a b c m : Int) (w : World) (h0 : 0 ≤ o) (h1 : o < 256) (a0 : 0 ≤ a) (a1 : a < 8) (b0 : 0 ≤ b) (b1 : b < 8) (c0 : 0 ≤ c) (c1 : c < 8) (m0 : 0 ≤ m) (m1 : m < 65536) (hr : rightI o a b c m = false) :
    Calls Try.prog 28 #[.agg #[.int .i64 o, .int .i64 a, .int .i64 b, .int .i64 c, .int .i64 m]] w fun e w' => e = .returned (.tuple #[.int .u64 0, .int .i64 1]) ∧ Below w.heap.size w w' := by
  have HR := Lib.hid hr
  clear hr
  go_enter Try.func28, Try.ntmps28
  go_wp2_with (fail)
  refine (right_any12 _ _ _ _ _ _ h0 a0 a1 b0 b1 c0 c1 m0 m1).mono ?_
  rintro e w1 ⟨rfl, hb1⟩
  rw [HR.out]
  have k1 : Below w.heap.size w w1 := Below.trans ((Below.refl _ _).alloc (Nat.le_refl _) _) (hb1.mono (by simp))
  go_wp2_with (fail)
  go_ret2
  exact ⟨rfl, k1⟩

theorem word12_any (o a b c m : Int) (w : World) (h0 : 0 ≤ o) (h1 : o < 256) (a0 : 0 ≤ a) (a1 : a < 8) (b0 : 0 ≤ b) (b1 : b < 8) (c0 : 0 ≤ c) (c1 : c < 8) (m0 : 0 ≤ m) (m1 : m < 65536) :
    Calls Try.prog 28 #[.agg #[.int .i64 o, .int .i64 a, .int .i64 b, .int .i64 c, .int .i64 m]] w fun e w' => e = .returned (.tuple #[.int .u64 (if rightI o a b c m = true then o + 256 * a + 2048 * b + 16384 * c + 16777216 * m else 0), .int .i64 (if rightI o a b c m = true then 0 else 1)]) ∧ Below w.heap.size w w' := by
  by_cases h : rightI o a b c m = true
  · rw [if_pos h, if_pos h]; exact word12_yes o a b c m w h0 h1 a0 a1 b0 b1 c0 c1 m0 m1 h
  · rw [if_neg h, if_neg h]; exact word12_no o a b c m w h0 h1 a0 a1 b0 b1 c0 c1 m0 m1 (by simpa using h)

/-- Is a word an instruction's? -/
def okX (x : Int) : Bool := rightI (x % 256) (x / 256 % 8) (x / 2048 % 8) (x / 16384 % 8) (x / 16777216 % 65536) && decide (x % 256 + 256 * (x / 256 % 8) + 2048 * (x / 2048 % 8) + 16384 * (x / 16384 % 8) + 16777216 * (x / 16777216 % 65536) = x)
def PX (x : Int) (k : Nat) : Int := partI (x % 256) (x / 256 % 8) (x / 2048 % 8) (x / 16384 % 8) (x / 16777216 % 65536) k
/-- The parts of a word; nought, if it is none. -/
def xP (x : Int) (k : Nat) : Int := if okX x then partI (x % 256) (x / 256 % 8) (x / 2048 % 8) (x / 16384 % 8) (x / 16777216 % 65536) k else 0
def xE (x : Int) : Int := if okX x then 0 else 11
theorem get12_0 (x : Int) : x / 2 ^ Int.toNat 0 % 2 ^ Int.toNat 8 = (x % 256) := by simp
theorem get12_1 (x : Int) : x / 2 ^ Int.toNat 8 % 2 ^ Int.toNat 3 = (x / 256 % 8) := by simp
theorem get12_2 (x : Int) : x / 2 ^ Int.toNat 11 % 2 ^ Int.toNat 3 = (x / 2048 % 8) := by simp
theorem get12_3 (x : Int) : x / 2 ^ Int.toNat 14 % 2 ^ Int.toNat 3 = (x / 16384 % 8) := by simp
theorem get12_4 (x : Int) : x / 2 ^ Int.toNat 24 % 2 ^ Int.toNat 16 = (x / 16777216 % 65536) := by simp

set_option maxRecDepth 100000 in
theorem of12_walk (x : Int) (w : World) (hx : 0 ≤ x) (hx' : x < 18446744073709551616) (R0 R1 R2 R3 R4 E : Int) (hE : xE x = E) (hR0 : xP x 0 = R0) (hR1 : xP x 1 = R1) (hR2 : xP x 2 = R2) (hR3 : xP x 3 = R3) (hR4 : xP x 4 = R4) :
    Calls Try.prog 19 #[.int .u64 x] w fun e w' => e = .returned (.tuple #[.agg #[.int .i64 R0, .int .i64 R1, .int .i64 R2, .int .i64 R3, .int .i64 R4], .int .i64 E]) ∧ Below w.heap.size w w' := by
  obtain ⟨i0, i1, i2, i3, i4⟩ := fields_at
  have HE := Lib.hid hE; have HR0 := Lib.hid hR0; have HR1 := Lib.hid hR1; have HR2 := Lib.hid hR2; have HR3 := Lib.hid hR3; have HR4 := Lib.hid hR4
  clear hE hR0 hR1 hR2 hR3 hR4
  have p0 : 0 ≤ (x % 256) := by omega
  have r0 : (x % 256) < 256 := by omega
  have p1 : 0 ≤ (x / 256 % 8) := by omega
  have r1 : (x / 256 % 8) < 8 := by omega
  have p2 : 0 ≤ (x / 2048 % 8) := by omega
  have r2 : (x / 2048 % 8) < 8 := by omega
  have p3 : 0 ≤ (x / 16384 % 8) := by omega
  have r3 : (x / 16384 % 8) < 8 := by omega
  have p4 : 0 ≤ (x / 16777216 % 65536) := by omega
  have r4 : (x / 16777216 % 65536) < 65536 := by omega
  go_enter Try.func19, Try.ntmps19
  go_wp2_with (fail)
  refine (fields12_any _).mono ?_
  rintro e w1 ⟨rfl, hb1⟩
  have y1 : RowF w1 w.heap.size 5 (fun j => [Value.int .i64 0, .int .i64 0, .int .i64 0, .int .i64 0, .int .i64 0].getD j undef) := by
    refine RowF.below ?_ hb1
    exact (RowF.new w [Value.int .i64 0, .int .i64 0, .int .i64 0, .int .i64 0, .int .i64 0] 50).alloc _
  have z1 : RowF w1 (w.heap.size + 1) 5 (fun j => .int .i64 (if j < 0 then PX x j else 0)) := by
    refine RowF.below ?_ hb1
    have h := RowF.new (w.alloc (.cells #[.int .i64 0, .int .i64 0, .int .i64 0, .int .i64 0, .int .i64 0] 50)) [Value.int .i64 0, .int .i64 0, .int .i64 0, .int .i64 0, .int .i64 0] 64
    simp only [World.size_alloc] at h
    refine h.congr (fun j hj => ?_)
    have hc : j = 0 ∨ j = 1 ∨ j = 2 ∨ j = 3 ∨ j = 4 := by simp at hj; omega
    rcases hc with rfl | rfl | rfl | rfl | rfl <;> rfl
  have s1 : w.heap.size + 1 < w1.heap.size := by have := hb1.size; simp at this; omega
  have k1 : Below w.heap.size w w1 := Below.trans (((Below.refl _ _).alloc (Nat.le_refl _) _).alloc (by simp) _) (hb1.mono (by simp <;> omega))
  clear hb1
  go_wp2_with (fail)
  go_loopw [13] (fun i wr => ∃ k : Nat, k ≤ 5 ∧ i = .int .i64 k ∧ RowF wr w.heap.size 5 (fun j => [Value.int .i64 0, .int .i64 0, .int .i64 0, .int .i64 0, .int .i64 0].getD j undef) ∧ RowF wr (w.heap.size + 1) 5 (fun j => .int .i64 (if j < k then PX x j else 0)) ∧ Below w.heap.size w wr) (fun i _ => 5 - (intOf i).toNat)
  case atStart => exact ⟨0, by omega, rfl, y1, z1, k1⟩
  case round =>
    obtain ⟨k, hk, rfl, yr, zr, kr⟩ := hrel
    have hc : k = 0 ∨ k = 1 ∨ k = 2 ∨ k = 3 ∨ k = 4 ∨ k = 5 := by omega
    rcases hc with rfl | rfl | rfl | rfl | rfl | rfl
    · have c0 := zr.cell 0 (by omega)
      have f0 := zr.free 0 (by omega)
      have b0 := zr.lt
      have hy := yr
      have hz := zr
      go_wp2_with (fail)
      refine (get_yes _ _ _ _ (by omega) (by omega) (by omega) (by omega) (by omega)).mono ?_
      rintro e w2 ⟨rfl, rfl⟩
      rw [get12_0]
      go_wp2_with (fail)
      go_roundw
      case rel =>
        refine ⟨1, by omega, rfl, ?_, ?_, ?_⟩
        · exact (hy.set_other (p := ⟨w.heap.size + 1, 0, none⟩) (by simp) _).alloc _
        · have h2 := (hz.set 0 (by omega) (.int .i64 (x % 256))).alloc (.cells #[.int .i64 0, .int .i64 8] 66)
          refine h2.congr (fun j hj => ?_)
          by_cases e : j = 0
          · subst e; rfl
          · have h3 : (j < 1) = (j < 0) := by simp; omega
            simp [e, h3]
        · repeat (first | exact kr | refine Below.setCell ?_ (by simp) _ | refine Below.alloc ?_ (by have := kr.size; simp <;> omega) _)
      case measure => simp [intOf]
    · have c0 := zr.cell 1 (by omega)
      have f0 := zr.free 1 (by omega)
      have b0 := zr.lt
      have hy := yr
      have hz := zr
      go_wp2_with (fail)
      refine (get_yes _ _ _ _ (by omega) (by omega) (by omega) (by omega) (by omega)).mono ?_
      rintro e w2 ⟨rfl, rfl⟩
      rw [get12_1]
      go_wp2_with (fail)
      go_roundw
      case rel =>
        refine ⟨2, by omega, rfl, ?_, ?_, ?_⟩
        · exact (hy.set_other (p := ⟨w.heap.size + 1, 1, none⟩) (by simp) _).alloc _
        · have h2 := (hz.set 1 (by omega) (.int .i64 (x / 256 % 8))).alloc (.cells #[.int .i64 8, .int .i64 3] 66)
          refine h2.congr (fun j hj => ?_)
          by_cases e : j = 1
          · subst e; rfl
          · have h3 : (j < 2) = (j < 1) := by simp; omega
            simp [e, h3]
        · repeat (first | exact kr | refine Below.setCell ?_ (by simp) _ | refine Below.alloc ?_ (by have := kr.size; simp <;> omega) _)
      case measure => simp [intOf]
    · have c0 := zr.cell 2 (by omega)
      have f0 := zr.free 2 (by omega)
      have b0 := zr.lt
      have hy := yr
      have hz := zr
      go_wp2_with (fail)
      refine (get_yes _ _ _ _ (by omega) (by omega) (by omega) (by omega) (by omega)).mono ?_
      rintro e w2 ⟨rfl, rfl⟩
      rw [get12_2]
      go_wp2_with (fail)
      go_roundw
      case rel =>
        refine ⟨3, by omega, rfl, ?_, ?_, ?_⟩
        · exact (hy.set_other (p := ⟨w.heap.size + 1, 2, none⟩) (by simp) _).alloc _
        · have h2 := (hz.set 2 (by omega) (.int .i64 (x / 2048 % 8))).alloc (.cells #[.int .i64 11, .int .i64 3] 66)
          refine h2.congr (fun j hj => ?_)
          by_cases e : j = 2
          · subst e; rfl
          · have h3 : (j < 3) = (j < 2) := by simp; omega
            simp [e, h3]
        · repeat (first | exact kr | refine Below.setCell ?_ (by simp) _ | refine Below.alloc ?_ (by have := kr.size; simp <;> omega) _)
      case measure => simp [intOf]
    · have c0 := zr.cell 3 (by omega)
      have f0 := zr.free 3 (by omega)
      have b0 := zr.lt
      have hy := yr
      have hz := zr
      go_wp2_with (fail)
      refine (get_yes _ _ _ _ (by omega) (by omega) (by omega) (by omega) (by omega)).mono ?_
      rintro e w2 ⟨rfl, rfl⟩
      rw [get12_3]
      go_wp2_with (fail)
      go_roundw
      case rel =>
        refine ⟨4, by omega, rfl, ?_, ?_, ?_⟩
        · exact (hy.set_other (p := ⟨w.heap.size + 1, 3, none⟩) (by simp) _).alloc _
        · have h2 := (hz.set 3 (by omega) (.int .i64 (x / 16384 % 8))).alloc (.cells #[.int .i64 14, .int .i64 3] 66)
          refine h2.congr (fun j hj => ?_)
          by_cases e : j = 3
          · subst e; rfl
          · have h3 : (j < 4) = (j < 3) := by simp; omega
            simp [e, h3]
        · repeat (first | exact kr | refine Below.setCell ?_ (by simp) _ | refine Below.alloc ?_ (by have := kr.size; simp <;> omega) _)
      case measure => simp [intOf]
    · have c0 := zr.cell 4 (by omega)
      have f0 := zr.free 4 (by omega)
      have b0 := zr.lt
      have hy := yr
      have hz := zr
      go_wp2_with (fail)
      refine (get_yes _ _ _ _ (by omega) (by omega) (by omega) (by omega) (by omega)).mono ?_
      rintro e w2 ⟨rfl, rfl⟩
      rw [get12_4]
      go_wp2_with (fail)
      go_roundw
      case rel =>
        refine ⟨5, by omega, rfl, ?_, ?_, ?_⟩
        · exact (hy.set_other (p := ⟨w.heap.size + 1, 4, none⟩) (by simp) _).alloc _
        · have h2 := (hz.set 4 (by omega) (.int .i64 (x / 16777216 % 65536))).alloc (.cells #[.int .i64 24, .int .i64 16] 66)
          refine h2.congr (fun j hj => ?_)
          by_cases e : j = 4
          · subst e; rfl
          · have h3 : (j < 5) = (j < 4) := by simp; omega
            simp [e, h3]
        · repeat (first | exact kr | refine Below.setCell ?_ (by simp) _ | refine Below.alloc ?_ (by have := kr.size; simp <;> omega) _)
      case measure => simp [intOf]
    · have sy := yr.lt
      have c0 : wr.cell? ⟨w.heap.size + 1, 0, none⟩ = some (.int .i64 (x % 256)) := zr.cell 0 (by omega)
      have c1 : wr.cell? ⟨w.heap.size + 1, 1, none⟩ = some (.int .i64 (x / 256 % 8)) := zr.cell 1 (by omega)
      have c2 : wr.cell? ⟨w.heap.size + 1, 2, none⟩ = some (.int .i64 (x / 2048 % 8)) := zr.cell 2 (by omega)
      have c3 : wr.cell? ⟨w.heap.size + 1, 3, none⟩ = some (.int .i64 (x / 16384 % 8)) := zr.cell 3 (by omega)
      have c4 : wr.cell? ⟨w.heap.size + 1, 4, none⟩ = some (.int .i64 (x / 16777216 % 65536)) := zr.cell 4 (by omega)
      have q0 : wr.cell? ⟨w.heap.size, 0, none⟩ = some (.int .i64 0) := yr.cell 0 (by omega)
      have q1 : wr.cell? ⟨w.heap.size, 1, none⟩ = some (.int .i64 0) := yr.cell 1 (by omega)
      have q2 : wr.cell? ⟨w.heap.size, 2, none⟩ = some (.int .i64 0) := yr.cell 2 (by omega)
      have q3 : wr.cell? ⟨w.heap.size, 3, none⟩ = some (.int .i64 0) := yr.cell 3 (by omega)
      have q4 : wr.cell? ⟨w.heap.size, 4, none⟩ = some (.int .i64 0) := yr.cell 4 (by omega)
      have f0 : wr.frozen? ⟨w.heap.size, 0, none⟩ = false := yr.free 0 (by omega)
      have f1 : wr.frozen? ⟨w.heap.size, 1, none⟩ = false := yr.free 1 (by omega)
      have f2 : wr.frozen? ⟨w.heap.size, 2, none⟩ = false := yr.free 2 (by omega)
      have f3 : wr.frozen? ⟨w.heap.size, 3, none⟩ = false := yr.free 3 (by omega)
      have f4 : wr.frozen? ⟨w.heap.size, 4, none⟩ = false := yr.free 4 (by omega)
      clear yr zr y1 z1
      go_wp2_with (fail)
      refine (join_any _ _ _ _ _ _).mono ?_
      rintro e w2 ⟨rfl, hb2⟩
      have q0 : w2.cell? ⟨w.heap.size, 0, none⟩ = some (.int .i64 0) := keep hb2 sy q0
      have q1 : w2.cell? ⟨w.heap.size, 1, none⟩ = some (.int .i64 0) := keep hb2 sy q1
      have q2 : w2.cell? ⟨w.heap.size, 2, none⟩ = some (.int .i64 0) := keep hb2 sy q2
      have q3 : w2.cell? ⟨w.heap.size, 3, none⟩ = some (.int .i64 0) := keep hb2 sy q3
      have q4 : w2.cell? ⟨w.heap.size, 4, none⟩ = some (.int .i64 0) := keep hb2 sy q4
      have f0 : w2.frozen? ⟨w.heap.size, 0, none⟩ = false := keepF hb2 sy f0
      have f1 : w2.frozen? ⟨w.heap.size, 1, none⟩ = false := keepF hb2 sy f1
      have f2 : w2.frozen? ⟨w.heap.size, 2, none⟩ = false := keepF hb2 sy f2
      have f3 : w2.frozen? ⟨w.heap.size, 3, none⟩ = false := keepF hb2 sy f3
      have f4 : w2.frozen? ⟨w.heap.size, 4, none⟩ = false := keepF hb2 sy f4
      have s2 := hb2.size
      have k2 := kr.trans (hb2.mono kr.size)
      obtain ⟨w3, hw3⟩ : ∃ w3, w3 = w2.alloc (.cells #[.int .i64 (x % 256), .int .i64 (x / 256 % 8), .int .i64 (x / 2048 % 8), .int .i64 (x / 16384 % 8), .int .i64 (x / 16777216 % 65536)] 50) := ⟨_, rfl⟩
      have hb3 : Below w2.heap.size w2 w3 := by rw [hw3]; exact (Below.refl _ _).alloc (Nat.le_refl _) _
      have s3 : w2.heap.size < w3.heap.size := by rw [hw3]; simp
      have d0 : w3.cell? ⟨w2.heap.size, 0, none⟩ = some (.int .i64 (x % 256)) := by rw [hw3]; simp [go_sem]
      have d1 : w3.cell? ⟨w2.heap.size, 1, none⟩ = some (.int .i64 (x / 256 % 8)) := by rw [hw3]; simp [go_sem]
      have d2 : w3.cell? ⟨w2.heap.size, 2, none⟩ = some (.int .i64 (x / 2048 % 8)) := by rw [hw3]; simp [go_sem]
      have d3 : w3.cell? ⟨w2.heap.size, 3, none⟩ = some (.int .i64 (x / 16384 % 8)) := by rw [hw3]; simp [go_sem]
      have d4 : w3.cell? ⟨w2.heap.size, 4, none⟩ = some (.int .i64 (x / 16777216 % 65536)) := by rw [hw3]; simp [go_sem]
      have q0 : w3.cell? ⟨w.heap.size, 0, none⟩ = some (.int .i64 0) := keep hb3 (by omega) q0
      have q1 : w3.cell? ⟨w.heap.size, 1, none⟩ = some (.int .i64 0) := keep hb3 (by omega) q1
      have q2 : w3.cell? ⟨w.heap.size, 2, none⟩ = some (.int .i64 0) := keep hb3 (by omega) q2
      have q3 : w3.cell? ⟨w.heap.size, 3, none⟩ = some (.int .i64 0) := keep hb3 (by omega) q3
      have q4 : w3.cell? ⟨w.heap.size, 4, none⟩ = some (.int .i64 0) := keep hb3 (by omega) q4
      have f0 : w3.frozen? ⟨w.heap.size, 0, none⟩ = false := keepF hb3 (by omega) f0
      have f1 : w3.frozen? ⟨w.heap.size, 1, none⟩ = false := keepF hb3 (by omega) f1
      have f2 : w3.frozen? ⟨w.heap.size, 2, none⟩ = false := keepF hb3 (by omega) f2
      have f3 : w3.frozen? ⟨w.heap.size, 3, none⟩ = false := keepF hb3 (by omega) f3
      have f4 : w3.frozen? ⟨w.heap.size, 4, none⟩ = false := keepF hb3 (by omega) f4
      have k3 := k2.trans (hb3.mono k2.size)
      go_wp2_with (fail)
      rw [← hw3]
      clear hw3
      refine (word12_any _ _ _ _ _ _ (by omega) (by omega) (by omega) (by omega) (by omega) (by omega) (by omega) (by omega) (by omega) (by omega)).mono ?_
      rintro e w4 ⟨rfl, hb4⟩
      have d0 : w4.cell? ⟨w2.heap.size, 0, none⟩ = some (.int .i64 (x % 256)) := keep hb4 s3 d0
      have d1 : w4.cell? ⟨w2.heap.size, 1, none⟩ = some (.int .i64 (x / 256 % 8)) := keep hb4 s3 d1
      have d2 : w4.cell? ⟨w2.heap.size, 2, none⟩ = some (.int .i64 (x / 2048 % 8)) := keep hb4 s3 d2
      have d3 : w4.cell? ⟨w2.heap.size, 3, none⟩ = some (.int .i64 (x / 16384 % 8)) := keep hb4 s3 d3
      have d4 : w4.cell? ⟨w2.heap.size, 4, none⟩ = some (.int .i64 (x / 16777216 % 65536)) := keep hb4 s3 d4
      have q0 : w4.cell? ⟨w.heap.size, 0, none⟩ = some (.int .i64 0) := keep hb4 (by omega) q0
      have q1 : w4.cell? ⟨w.heap.size, 1, none⟩ = some (.int .i64 0) := keep hb4 (by omega) q1
      have q2 : w4.cell? ⟨w.heap.size, 2, none⟩ = some (.int .i64 0) := keep hb4 (by omega) q2
      have q3 : w4.cell? ⟨w.heap.size, 3, none⟩ = some (.int .i64 0) := keep hb4 (by omega) q3
      have q4 : w4.cell? ⟨w.heap.size, 4, none⟩ = some (.int .i64 0) := keep hb4 (by omega) q4
      have f0 : w4.frozen? ⟨w.heap.size, 0, none⟩ = false := keepF hb4 (by omega) f0
      have f1 : w4.frozen? ⟨w.heap.size, 1, none⟩ = false := keepF hb4 (by omega) f1
      have f2 : w4.frozen? ⟨w.heap.size, 2, none⟩ = false := keepF hb4 (by omega) f2
      have f3 : w4.frozen? ⟨w.heap.size, 3, none⟩ = false := keepF hb4 (by omega) f3
      have f4 : w4.frozen? ⟨w.heap.size, 4, none⟩ = false := keepF hb4 (by omega) f4
      have s4 := hb4.size
      have k4 := k3.trans (hb4.mono k3.size)
      have ne : ¬ w2.heap.size = w.heap.size := by omega
      by_cases hr : rightI (x % 256) (x / 256 % 8) (x / 2048 % 8) (x / 16384 % 8) (x / 16777216 % 65536) = true
      · rw [if_pos hr, if_pos hr]
        by_cases hs : x % 256 + 256 * (x / 256 % 8) + 2048 * (x / 2048 % 8) + 16384 * (x / 16384 % 8) + 16777216 * (x / 16777216 % 65536) = x
        · have hok : okX x = true := by unfold okX; rw [hr, hs]; simp
          have hX : (x % 256 + 256 * (x / 256 % 8) + 2048 * (x / 2048 % 8) + 16384 * (x / 16384 % 8) + 16777216 * (x / 16777216 % 65536) != x) = false := by simp [hs]
          have HO := Lib.hid hok
          clear hok hs hr
          go_wp2_with (fail)
          refine bodyPost_ret (v := .tuple #[.agg #[.int .i64 R0, .int .i64 R1, .int .i64 R2, .int .i64 R3, .int .i64 R4], .int .i64 E]) ?_ rfl ⟨rfl, ?_⟩
          · rw [← HE.out, ← HR0.out, ← HR1.out, ← HR2.out, ← HR3.out, ← HR4.out]
            simp [results, Try.results19, go_sem, q0, q1, q2, q3, q4, f0, f1, f2, f3, f4, xE, xP, HO.out, partI]
          · repeat (first | exact k4 | refine Below.setCell ?_ (by simp) _)
        · have hok : okX x = false := by unfold okX; simp; intro _; exact hs
          have hX : (x % 256 + 256 * (x / 256 % 8) + 2048 * (x / 2048 % 8) + 16384 * (x / 16384 % 8) + 16777216 * (x / 16777216 % 65536) != x) = true := by simp [hs]
          have HO := Lib.hid hok
          clear hok hs hr
          go_wp2_with (fail)
          refine bodyPost_ret (v := .tuple #[.agg #[.int .i64 R0, .int .i64 R1, .int .i64 R2, .int .i64 R3, .int .i64 R4], .int .i64 E]) ?_ rfl ⟨rfl, ?_⟩
          · rw [← HE.out, ← HR0.out, ← HR1.out, ← HR2.out, ← HR3.out, ← HR4.out]
            simp [results, Try.results19, go_sem, q0, q1, q2, q3, q4, f0, f1, f2, f3, f4, xE, xP, HO.out]
          · repeat (first | exact k4 | refine Below.setCell ?_ (by simp) _)
      · have hr' : rightI (x % 256) (x / 256 % 8) (x / 2048 % 8) (x / 16384 % 8) (x / 16777216 % 65536) = false := by simpa using hr
        rw [hr', if_neg (by simp), if_neg (by simp)]
        have hok : okX x = false := by unfold okX; rw [hr']; simp
        have HO := Lib.hid hok
        clear hok hr hr'
        go_wp2_with (fail)
        refine bodyPost_ret (v := .tuple #[.agg #[.int .i64 R0, .int .i64 R1, .int .i64 R2, .int .i64 R3, .int .i64 R4], .int .i64 E]) ?_ rfl ⟨rfl, ?_⟩
        · rw [← HE.out, ← HR0.out, ← HR1.out, ← HR2.out, ← HR3.out, ← HR4.out]
          simp [results, Try.results19, go_sem, q0, q1, q2, q3, q4, f0, f1, f2, f3, f4, xE, xP, HO.out]
        · repeat (first | exact k4 | refine Below.setCell ?_ (by simp) _)

theorem of12_any (x : Int) (w : World) (hx : 0 ≤ x) (hx' : x < 18446744073709551616) :
    Calls Try.prog 19 #[.int .u64 x] w fun e w' => e = .returned (.tuple #[.agg #[.int .i64 (xP x 0), .int .i64 (xP x 1), .int .i64 (xP x 2), .int .i64 (xP x 3), .int .i64 (xP x 4)], .int .i64 (xE x)]) ∧ Below w.heap.size w w' :=
  of12_walk x w hx hx' _ _ _ _ _ _ rfl rfl rfl rfl rfl rfl

end Go.Proofs.Ytfjfdhojhikgdaa
