/- What the functions of trunnionref12 return, by walks over their text (written by gen_ref12.py). -/
import Derived.Test.YtfjfdhojhikgdaaIsa3
namespace Go.Proofs.Ytfjfdhojhikgdaa
set_option linter.unusedSimpArgs false
set_option linter.unusedVariables false
open Go.RowKit
set_option maxHeartbeats 4000000

theorem names_any (o : Int) (w : World) (h0 : 0 ≤ o) (h1 : o ≤ 11) :
    Calls Try.prog 35 #[.int .i64 o] w fun e w' => e = .returned (.agg #[.bool (needB o 1), .bool (needB o 2), .bool (needB o 3), .bool (needB o 4)]) ∧ Below w.heap.size w w' := by
  rcases op_cases h0 h1 with h | h | h | h | h | h | h | h | h | h | h | h
  all_goals
    subst h
    go_enter Try.func35, Try.ntmps35
    go_wp2
    go_returns
    exact ⟨rfl, by go_grown⟩

theorem r12_right_big (o a b c m : Int) (w : World) (h0 : 0 ≤ o) (h1 : 11 < o) :
    Calls Try.prog 30 #[.agg #[.int .i64 o, .int .i64 a, .int .i64 b, .int .i64 c, .int .i64 m]] w fun e w' => e = .returned (.bool false) ∧ Below w.heap.size w w' := by
  go_enter Try.func30, Try.ntmps30
  go_wp2_with (fail)
  go_ret
  exact ⟨rfl, (Below.refl _ _).alloc (Nat.le_refl _) _⟩

set_option maxRecDepth 100000 in
theorem r12_right_walk (o a b c m : Int) (w : World) (h0 : 0 ≤ o) (h1 : o ≤ 11) (a0 : 0 ≤ a) (a1 : a < 8) (b0 : 0 ≤ b) (b1 : b < 8) (c0 : 0 ≤ c) (c1 : c < 8) (m0 : 0 ≤ m) (m1 : m < 65536) :
    Calls Try.prog 30 #[.agg #[.int .i64 o, .int .i64 a, .int .i64 b, .int .i64 c, .int .i64 m]] w fun e w' => e = .returned (.bool (rightI o a b c m)) ∧ Below w.heap.size w w' := by
  have d0 : decide (o < 0) = false := by simp; omega
  have d1 : decide (11 < o) = false := by simp; omega
  obtain ⟨N1, hN1⟩ : ∃ N, N = needB o 1 := ⟨_, rfl⟩
  obtain ⟨N2, hN2⟩ : ∃ N, N = needB o 2 := ⟨_, rfl⟩
  obtain ⟨N3, hN3⟩ : ∃ N, N = needB o 3 := ⟨_, rfl⟩
  obtain ⟨N4, hN4⟩ : ∃ N, N = needB o 4 := ⟨_, rfl⟩
  have HN1 := Lib.hid hN1; have HN2 := Lib.hid hN2; have HN3 := Lib.hid hN3; have HN4 := Lib.hid hN4
  clear hN1 hN2 hN3 hN4
  go_enter Try.func30, Try.ntmps30
  go_wp2_with (fail)
  refine (names_any o _ h0 h1).mono ?_
  rintro e w1 ⟨rfl, hb1⟩
  rw [← HN1.out, ← HN2.out, ← HN3.out, ← HN4.out]
  have k1 : Below w.heap.size w w1 := Below.trans ((Below.refl _ _).alloc (Nat.le_refl _) _) (hb1.mono (by simp))
  have q1 : w1.cell? ⟨w.heap.size, 1, none⟩ = some (.int .i64 a) := keep hb1 (by simp) (by simp [go_sem])
  have q2 : w1.cell? ⟨w.heap.size, 2, none⟩ = some (.int .i64 b) := keep hb1 (by simp) (by simp [go_sem])
  have q3 : w1.cell? ⟨w.heap.size, 3, none⟩ = some (.int .i64 c) := keep hb1 (by simp) (by simp [go_sem])
  have q4 : w1.cell? ⟨w.heap.size, 4, none⟩ = some (.int .i64 m) := keep hb1 (by simp) (by simp [go_sem])
  have s1 : w.heap.size < w1.heap.size := by have := hb1.size; simp at this; omega
  clear hb1
  go_wp2_with (fail)
  go_loop [5] (fun i => ∃ k : Nat, k ≤ 4 ∧ i = .int .i64 k ∧ Hid (∀ j, j < k + 1 → okI o a b c m j = true)) (fun i => 4 - (intOf i).toNat)
  case atStart => exact ⟨0, by omega, rfl, Lib.hid (fun j hj => by (have : j = 0 := by omega); subst this; rfl)⟩
  case round =>
    obtain ⟨k, hk, rfl, HK⟩ := hrel
    have hc : k = 0 ∨ k = 1 ∨ k = 2 ∨ k = 3 ∨ k = 4 := by omega
    rcases hc with rfl | rfl | rfl | rfl | rfl
    · have d2 : decide (a < 0) = false := by simp; omega
      have d3 : decide (7 < a) = false := by simp; omega
      have d4 : decide (65535 < a) = false := by simp; omega
      cases N1
      · by_cases hz : a = 0
        · have hz' : (a != 0) = false := by simp [hz]
          have HZ := Lib.hid hz
          clear hz
          go_wp2_with (fail)
          go_round
          case rel =>
            refine ⟨1, by omega, rfl, Lib.hid (fun j hj => ?_)⟩
            by_cases e : j = 1
            · subst e; simp [okI, partI, HZ.out]
            · exact HK.out j (by omega)
          case measure => simp [intOf]
        · have hz' : (a != 0) = true := by simp [hz]
          have hR : rightI o a b c m = false := rightI_not o a b c m 1 (by omega) (by simp [okI, partI, hz, ← HN1.out])
          have HR := Lib.hid hR
          clear hR hz
          go_wp2_with (fail)
          go_ret
          exact ⟨by rw [HR.out]; rfl, by repeat (first | exact k1 | refine Below.alloc ?_ (by have := k1.size; simp <;> omega) _)⟩
      · go_wp2_with (fail)
        go_round
        case rel =>
          refine ⟨1, by omega, rfl, Lib.hid (fun j hj => ?_)⟩
          by_cases e : j = 1
          · subst e; simp [okI, ← HN1.out]
          · exact HK.out j (by omega)
        case measure => simp [intOf]
    · have d2 : decide (b < 0) = false := by simp; omega
      have d3 : decide (7 < b) = false := by simp; omega
      have d4 : decide (65535 < b) = false := by simp; omega
      cases N2
      · by_cases hz : b = 0
        · have hz' : (b != 0) = false := by simp [hz]
          have HZ := Lib.hid hz
          clear hz
          go_wp2_with (fail)
          go_round
          case rel =>
            refine ⟨2, by omega, rfl, Lib.hid (fun j hj => ?_)⟩
            by_cases e : j = 2
            · subst e; simp [okI, partI, HZ.out]
            · exact HK.out j (by omega)
          case measure => simp [intOf]
        · have hz' : (b != 0) = true := by simp [hz]
          have hR : rightI o a b c m = false := rightI_not o a b c m 2 (by omega) (by simp [okI, partI, hz, ← HN2.out])
          have HR := Lib.hid hR
          clear hR hz
          go_wp2_with (fail)
          go_ret
          exact ⟨by rw [HR.out]; rfl, by repeat (first | exact k1 | refine Below.alloc ?_ (by have := k1.size; simp <;> omega) _)⟩
      · go_wp2_with (fail)
        go_round
        case rel =>
          refine ⟨2, by omega, rfl, Lib.hid (fun j hj => ?_)⟩
          by_cases e : j = 2
          · subst e; simp [okI, ← HN2.out]
          · exact HK.out j (by omega)
        case measure => simp [intOf]
    · have d2 : decide (c < 0) = false := by simp; omega
      have d3 : decide (7 < c) = false := by simp; omega
      have d4 : decide (65535 < c) = false := by simp; omega
      cases N3
      · by_cases hz : c = 0
        · have hz' : (c != 0) = false := by simp [hz]
          have HZ := Lib.hid hz
          clear hz
          go_wp2_with (fail)
          go_round
          case rel =>
            refine ⟨3, by omega, rfl, Lib.hid (fun j hj => ?_)⟩
            by_cases e : j = 3
            · subst e; simp [okI, partI, HZ.out]
            · exact HK.out j (by omega)
          case measure => simp [intOf]
        · have hz' : (c != 0) = true := by simp [hz]
          have hR : rightI o a b c m = false := rightI_not o a b c m 3 (by omega) (by simp [okI, partI, hz, ← HN3.out])
          have HR := Lib.hid hR
          clear hR hz
          go_wp2_with (fail)
          go_ret
          exact ⟨by rw [HR.out]; rfl, by repeat (first | exact k1 | refine Below.alloc ?_ (by have := k1.size; simp <;> omega) _)⟩
      · go_wp2_with (fail)
        go_round
        case rel =>
          refine ⟨3, by omega, rfl, Lib.hid (fun j hj => ?_)⟩
          by_cases e : j = 3
          · subst e; simp [okI, ← HN3.out]
          · exact HK.out j (by omega)
        case measure => simp [intOf]
    · have d2 : decide (m < 0) = false := by simp; omega
      have d4 : decide (65535 < m) = false := by simp; omega
      cases N4
      · by_cases hz : m = 0
        · have hz' : (m != 0) = false := by simp [hz]
          have HZ := Lib.hid hz
          clear hz
          go_wp2_with (fail)
          go_round
          case rel =>
            refine ⟨4, by omega, rfl, Lib.hid (fun j hj => ?_)⟩
            by_cases e : j = 4
            · subst e; simp [okI, partI, HZ.out]
            · exact HK.out j (by omega)
          case measure => simp [intOf]
        · have hz' : (m != 0) = true := by simp [hz]
          have hR : rightI o a b c m = false := rightI_not o a b c m 4 (by omega) (by simp [okI, partI, hz, ← HN4.out])
          have HR := Lib.hid hR
          clear hR hz
          go_wp2_with (fail)
          go_ret
          exact ⟨by rw [HR.out]; rfl, by repeat (first | exact k1 | refine Below.alloc ?_ (by have := k1.size; simp <;> omega) _)⟩
      · go_wp2_with (fail)
        go_round
        case rel =>
          refine ⟨4, by omega, rfl, Lib.hid (fun j hj => ?_)⟩
          by_cases e : j = 4
          · subst e; simp [okI, ← HN4.out]
          · exact HK.out j (by omega)
        case measure => simp [intOf]
    · have hR : Hid (rightI o a b c m = true) := Lib.hid (rightI_of o a b c m h1 HK.out)
      go_wp2_with (fail)
      go_ret
      exact ⟨by rw [hR.out]; rfl, by repeat (first | exact k1 | refine Below.alloc ?_ (by have := k1.size; simp <;> omega) _)⟩

theorem r12_right_any (o a b c m : Int) (w : World) (h0 : 0 ≤ o) (a0 : 0 ≤ a) (a1 : a < 8) (b0 : 0 ≤ b) (b1 : b < 8) (c0 : 0 ≤ c) (c1 : c < 8) (m0 : 0 ≤ m) (m1 : m < 65536) :
    Calls Try.prog 30 #[.agg #[.int .i64 o, .int .i64 a, .int .i64 b, .int .i64 c, .int .i64 m]] w fun e w' => e = .returned (.bool (rightI o a b c m)) ∧ Below w.heap.size w w' := by
  by_cases h : o ≤ 11
  · exact r12_right_walk o a b c m w h0 h a0 a1 b0 b1 c0 c1 m0 m1
  · have : rightI o a b c m = false := by simp [rightI]; intro h'; omega
    rw [this]
    exact r12_right_big o a b c m w h0 (by omega)

theorem r12_word_any (o a b c m : Int) (w : World) (h0 : 0 ≤ o) (h1 : o < 256) (a0 : 0 ≤ a) (a1 : a < 8) (b0 : 0 ≤ b) (b1 : b < 8) (c0 : 0 ≤ c) (c1 : c < 8) (m0 : 0 ≤ m) (m1 : m < 65536) :
    Calls Try.prog 24 #[.agg #[.int .i64 o, .int .i64 a, .int .i64 b, .int .i64 c, .int .i64 m]] w fun e w' => e = .returned (.tuple #[.int .u64 (if rightI o a b c m = true then o + 256 * a + 2048 * b + 16384 * c + 16777216 * m else 0), .int .i64 (if rightI o a b c m = true then 0 else 1)]) ∧ Below w.heap.size w w' := by
  obtain ⟨r, hr⟩ : ∃ r, r = rightI o a b c m := ⟨_, rfl⟩
  rw [← hr]
  have HR := Lib.hid hr
  clear hr
  go_enter Try.func24, Try.ntmps24
  go_wp2_with (fail)
  refine (r12_right_any _ _ _ _ _ _ h0 a0 a1 b0 b1 c0 c1 m0 m1).mono ?_
  rintro e w1 ⟨rfl, hb1⟩
  rw [← HR.out]
  have k1 : Below w.heap.size w w1 := Below.trans ((Below.refl _ _).alloc (Nat.le_refl _) _) (hb1.mono (by simp))
  have q0 : w1.cell? ⟨w.heap.size, 0, none⟩ = some (.int .i64 o) := keep hb1 (by simp) (by simp [go_sem])
  have q1 : w1.cell? ⟨w.heap.size, 1, none⟩ = some (.int .i64 a) := keep hb1 (by simp) (by simp [go_sem])
  have q2 : w1.cell? ⟨w.heap.size, 2, none⟩ = some (.int .i64 b) := keep hb1 (by simp) (by simp [go_sem])
  have q3 : w1.cell? ⟨w.heap.size, 3, none⟩ = some (.int .i64 c) := keep hb1 (by simp) (by simp [go_sem])
  have q4 : w1.cell? ⟨w.heap.size, 4, none⟩ = some (.int .i64 m) := keep hb1 (by simp) (by simp [go_sem])
  cases r
  · go_wp2_with (fail)
    go_ret2
    exact ⟨rfl, k1⟩
  · go_wp2_with (fail)
    go_ret2
    exact ⟨rfl, k1⟩

set_option maxRecDepth 100000 in
theorem r12_of_walk (x : Int) (w : World) (hx : 0 ≤ x) (hx' : x < 18446744073709551616) (R0 R1 R2 R3 R4 E : Int) (hE : xE x = E) (hR0 : xP x 0 = R0) (hR1 : xP x 1 = R1) (hR2 : xP x 2 = R2) (hR3 : xP x 3 = R3) (hR4 : xP x 4 = R4) :
    Calls Try.prog 22 #[.int .u64 x] w fun e w' => e = .returned (.tuple #[.agg #[.int .i64 R0, .int .i64 R1, .int .i64 R2, .int .i64 R3, .int .i64 R4], .int .i64 E]) ∧ Below w.heap.size w w' := by
  have HE := Lib.hid hE; have HR0 := Lib.hid hR0; have HR1 := Lib.hid hR1; have HR2 := Lib.hid hR2; have HR3 := Lib.hid hR3; have HR4 := Lib.hid hR4
  clear hE hR0 hR1 hR2 hR3 hR4
  have p0 : 0 ≤ (x % 256) := by omega
  have r0 : (x % 256) < 256 := by omega
  have p1 : 0 ≤ (x / 256 % 8) := by omega
  have r1 : (x / 256 % 8) < 8 := by omega
  have p2 : 0 ≤ (x / 2048 % 8) := by omega
  have r2 : (x / 2048 % 8) < 8 := by omega
  have p3 : 0 ≤ (x / 16384 % 8) := by omega
  have r3 : (x / 16384 % 8) < 8 := by omega
  have p4 : 0 ≤ (x / 16777216 % 65536) := by omega
  have r4 : (x / 16777216 % 65536) < 65536 := by omega
  go_enter Try.func22, Try.ntmps22
  go_wp2_with (fail)
  refine (r12_word_any _ _ _ _ _ _ (by omega) (by omega) (by omega) (by omega) (by omega) (by omega) (by omega) (by omega) (by omega) (by omega)).mono ?_
  rintro e w4 ⟨rfl, hb4⟩
  have d0 : w4.cell? ⟨w.heap.size + 1, 0, none⟩ = some (.int .i64 (x % 256)) := keep hb4 (by simp <;> omega) (by simp [go_sem])
  have d1 : w4.cell? ⟨w.heap.size + 1, 1, none⟩ = some (.int .i64 (x / 256 % 8)) := keep hb4 (by simp <;> omega) (by simp [go_sem])
  have d2 : w4.cell? ⟨w.heap.size + 1, 2, none⟩ = some (.int .i64 (x / 2048 % 8)) := keep hb4 (by simp <;> omega) (by simp [go_sem])
  have d3 : w4.cell? ⟨w.heap.size + 1, 3, none⟩ = some (.int .i64 (x / 16384 % 8)) := keep hb4 (by simp <;> omega) (by simp [go_sem])
  have d4 : w4.cell? ⟨w.heap.size + 1, 4, none⟩ = some (.int .i64 (x / 16777216 % 65536)) := keep hb4 (by simp <;> omega) (by simp [go_sem])
  have q0 : w4.cell? ⟨w.heap.size, 0, none⟩ = some (.int .i64 0) := keep hb4 (by simp <;> omega) (by simp [go_sem])
  have q1 : w4.cell? ⟨w.heap.size, 1, none⟩ = some (.int .i64 0) := keep hb4 (by simp <;> omega) (by simp [go_sem])
  have q2 : w4.cell? ⟨w.heap.size, 2, none⟩ = some (.int .i64 0) := keep hb4 (by simp <;> omega) (by simp [go_sem])
  have q3 : w4.cell? ⟨w.heap.size, 3, none⟩ = some (.int .i64 0) := keep hb4 (by simp <;> omega) (by simp [go_sem])
  have q4 : w4.cell? ⟨w.heap.size, 4, none⟩ = some (.int .i64 0) := keep hb4 (by simp <;> omega) (by simp [go_sem])
  have f0 : w4.frozen? ⟨w.heap.size, 0, none⟩ = false := keepF hb4 (by simp <;> omega) (by simp [go_sem])
  have f1 : w4.frozen? ⟨w.heap.size, 1, none⟩ = false := keepF hb4 (by simp <;> omega) (by simp [go_sem])
  have f2 : w4.frozen? ⟨w.heap.size, 2, none⟩ = false := keepF hb4 (by simp <;> omega) (by simp [go_sem])
  have f3 : w4.frozen? ⟨w.heap.size, 3, none⟩ = false := keepF hb4 (by simp <;> omega) (by simp [go_sem])
  have f4 : w4.frozen? ⟨w.heap.size, 4, none⟩ = false := keepF hb4 (by simp <;> omega) (by simp [go_sem])
  have k4 : Below w.heap.size w w4 := Below.trans (((Below.refl _ _).alloc (Nat.le_refl _) _).alloc (by simp) _) (hb4.mono (by simp <;> omega))
  by_cases hr : rightI (x % 256) (x / 256 % 8) (x / 2048 % 8) (x / 16384 % 8) (x / 16777216 % 65536) = true
  · rw [if_pos hr, if_pos hr]
    by_cases hs : x % 256 + 256 * (x / 256 % 8) + 2048 * (x / 2048 % 8) + 16384 * (x / 16384 % 8) + 16777216 * (x / 16777216 % 65536) = x
    · have hok : okX x = true := by unfold okX; rw [hr, hs]; simp
      have hX : (x % 256 + 256 * (x / 256 % 8) + 2048 * (x / 2048 % 8) + 16384 * (x / 16384 % 8) + 16777216 * (x / 16777216 % 65536) != x) = false := by simp [hs]
      have HO := Lib.hid hok
      clear hok hs hr
      go_wp2_with (fail)
      refine bodyPost_ret (v := .tuple #[.agg #[.int .i64 R0, .int .i64 R1, .int .i64 R2, .int .i64 R3, .int .i64 R4], .int .i64 E]) ?_ rfl ⟨rfl, ?_⟩
      · rw [← HE.out, ← HR0.out, ← HR1.out, ← HR2.out, ← HR3.out, ← HR4.out]
        simp [results, Try.results22, go_sem, q0, q1, q2, q3, q4, f0, f1, f2, f3, f4, xE, xP, HO.out, partI]
      · repeat (first | exact k4 | refine Below.setCell ?_ (by simp) _)
    · have hok : okX x = false := by unfold okX; simp; intro _; exact hs
      have hX : (x % 256 + 256 * (x / 256 % 8) + 2048 * (x / 2048 % 8) + 16384 * (x / 16384 % 8) + 16777216 * (x / 16777216 % 65536) != x) = true := by simp [hs]
      have HO := Lib.hid hok
      clear hok hs hr
      go_wp2_with (fail)
      refine bodyPost_ret (v := .tuple #[.agg #[.int .i64 R0, .int .i64 R1, .int .i64 R2, .int .i64 R3, .int .i64 R4], .int .i64 E]) ?_ rfl ⟨rfl, ?_⟩
      · rw [← HE.out, ← HR0.out, ← HR1.out, ← HR2.out, ← HR3.out, ← HR4.out]
        simp [results, Try.results22, go_sem, q0, q1, q2, q3, q4, f0, f1, f2, f3, f4, xE, xP, HO.out]
      · repeat (first | exact k4 | refine Below.setCell ?_ (by simp) _)
  · have hr' : rightI (x % 256) (x / 256 % 8) (x / 2048 % 8) (x / 16384 % 8) (x / 16777216 % 65536) = false := by simpa using hr
    rw [hr', if_neg (by simp), if_neg (by simp)]
    have hok : okX x = false := by unfold okX; rw [hr']; simp
    have HO := Lib.hid hok
    clear hok hr hr'
    go_wp2_with (fail)
    refine bodyPost_ret (v := .tuple #[.agg #[.int .i64 R0, .int .i64 R1, .int .i64 R2, .int .i64 R3, .int .i64 R4], .int .i64 E]) ?_ rfl ⟨rfl, ?_⟩
    · rw [← HE.out, ← HR0.out, ← HR1.out, ← HR2.out, ← HR3.out, ← HR4.out]
      simp [results, Try.results22, go_sem, q0, q1, q2, q3, q4, f0, f1, f2, f3, f4, xE, xP, HO.out]
    · repeat (first | exact k4 | refine Below.setCell ?_ (by simp) _)

theorem r12_of_any (x : Int) (w : World) (hx : 0 ≤ x) (hx' : x < 18446744073709551616) :
    Calls Try.prog 22 #[.int .u64 x] w fun e w' => e = .returned (.tuple #[.agg #[.int .i64 (xP x 0), .int .i64 (xP x 1), .int .i64 (xP x 2), .int .i64 (xP x 3), .int .i64 (xP x 4)], .int .i64 (xE x)]) ∧ Below w.heap.size w w' :=
  r12_of_walk x w hx hx' _ _ _ _ _ _ rfl rfl rfl rfl rfl rfl

end Go.Proofs.Ytfjfdhojhikgdaa
