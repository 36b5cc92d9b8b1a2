/- What isa.right returns, by a walk over its text. -/
import Derived.Test.YtfjfdhojhikgdaaIsa
namespace Go.Proofs.Ytfjfdhojhikgdaa
set_option linter.unusedSimpArgs false
set_option linter.unusedVariables false
open Go.RowKit
set_option maxHeartbeats 4000000

/-- May an instruction be, whose parts are as many bits as they may be? -/
def rightI (o a b c m : Int) : Bool := decide (o ≤ 11) && (decide (a = 0) || needB o 1) && (decide (b = 0) || needB o 2) && (decide (c = 0) || needB o 3) && (decide (m = 0) || needB o 4)
/-- The parts. -/
def partI (o a b c m : Int) (k : Nat) : Int := if k = 0 then o else if k = 1 then a else if k = 2 then b else if k = 3 then c else m
def okI (o a b c m : Int) (k : Nat) : Bool := decide (k = 0) || decide (partI o a b c m k = 0) || needB o k
theorem rightI_of (o a b c m : Int) (h : o ≤ 11) (hk : ∀ k, k < 5 → okI o a b c m k = true) : rightI o a b c m = true := by
  have h1 := hk 1 (by omega)
  have h2 := hk 2 (by omega)
  have h3 := hk 3 (by omega)
  have h4 := hk 4 (by omega)
  simp only [okI, partI] at h1 h2 h3 h4
  simp only [rightI]
  simp at h1 h2 h3 h4 ⊢
  exact ⟨⟨⟨⟨h, h1⟩, h2⟩, h3⟩, h4⟩
theorem rightI_not (o a b c m : Int) (k : Nat) (hk : k < 5) (h : okI o a b c m k = false) : rightI o a b c m = false := by
  have : k = 0 ∨ k = 1 ∨ k = 2 ∨ k = 3 ∨ k = 4 := by omega
  rcases this with rfl | rfl | rfl | rfl | rfl
  · simp [okI] at h
  all_goals
    simp only [okI, partI] at h
    simp at h
    simp [rightI, h]

theorem parts_at (o a b c m : Int) : (∀ w, (Instr.index 64 (.agg #[.int .i64 o, .int .i64 a, .int .i64 b, .int .i64 c, .int .i64 m]) (.int .i64 0)).run Try.prog w = .ok (.int .i64 o) w) ∧ (∀ w, (Instr.index 64 (.agg #[.int .i64 o, .int .i64 a, .int .i64 b, .int .i64 c, .int .i64 m]) (.int .i64 1)).run Try.prog w = .ok (.int .i64 a) w) ∧ (∀ w, (Instr.index 64 (.agg #[.int .i64 o, .int .i64 a, .int .i64 b, .int .i64 c, .int .i64 m]) (.int .i64 2)).run Try.prog w = .ok (.int .i64 b) w) ∧ (∀ w, (Instr.index 64 (.agg #[.int .i64 o, .int .i64 a, .int .i64 b, .int .i64 c, .int .i64 m]) (.int .i64 3)).run Try.prog w = .ok (.int .i64 c) w) ∧ (∀ w, (Instr.index 64 (.agg #[.int .i64 o, .int .i64 a, .int .i64 b, .int .i64 c, .int .i64 m]) (.int .i64 4)).run Try.prog w = .ok (.int .i64 m) w) :=
  ⟨fun _ => by kernel_rfl, fun _ => by kernel_rfl, fun _ => by kernel_rfl, fun _ => by kernel_rfl, fun _ => by kernel_rfl⟩

theorem right_big (o a b c m : Int) (w : World) (h0 : 0 ≤ o) (h1 : 11 < o) :
    Calls Try.prog 32 #[.agg #[.int .i64 o, .int .i64 a, .int .i64 b, .int .i64 c, .int .i64 m]] w fun e w' => e = .returned (.bool false) ∧ Below w.heap.size w w' := by
  go_enter Try.func32, Try.ntmps32
  go_wp2_with (fail)
  go_ret
  exact ⟨rfl, (Below.refl _ _).alloc (Nat.le_refl _) _⟩

set_option maxRecDepth 100000 in
theorem right_walk (o a b c m : Int) (w : World) (h0 : 0 ≤ o) (h1 : o ≤ 11) (a0 : 0 ≤ a) (a1 : a < 8) (b0 : 0 ≤ b) (b1 : b < 8) (c0 : 0 ≤ c) (c1 : c < 8) (m0 : 0 ≤ m) (m1 : m < 65536) :
    Calls Try.prog 32 #[.agg #[.int .i64 o, .int .i64 a, .int .i64 b, .int .i64 c, .int .i64 m]] w fun e w' => e = .returned (.bool (rightI o a b c m)) ∧ Below w.heap.size w w' := by
  have hF := forms_at o h0 h1
  obtain ⟨i0, i1, i2, i3, i4⟩ := fields_at
  obtain ⟨j0, j1, j2, j3, j4⟩ := parts_at o a b c m
  have hfs : ∀ s t w, (Instr.field 83 (.agg #[.string s, .string t]) 1).run Try.prog w = .ok (.string t) w := fun _ _ _ => by kernel_rfl
  have hff : ∀ x y w, (Instr.field 66 (.agg #[.int .i64 x, .int .i64 y]) 1).run Try.prog w = .ok (.int .i64 y) w := fun _ _ _ => by kernel_rfl
  have d0 : decide (o < 0) = false := by simp; omega
  have d1 : decide (11 < o) = false := by simp; omega
  go_enter Try.func32, Try.ntmps32
  go_wp2_with (fail)
  go_region_held3 (fun w' => w'.cell? ⟨w.heap.size, 0, none⟩ = some (.int .i64 o) ∧ w'.cell? ⟨w.heap.size, 1, none⟩ = some (.int .i64 a) ∧ w'.cell? ⟨w.heap.size, 2, none⟩ = some (.int .i64 b) ∧ w'.cell? ⟨w.heap.size, 3, none⟩ = some (.int .i64 c) ∧ w'.cell? ⟨w.heap.size, 4, none⟩ = some (.int .i64 m))
    (first | go_keep | (refine ⟨?_, ?_, ?_, ?_, ?_⟩ <;> (refine keep (by assumption) (by simp) ?_; simp [go_sem])))
    ((go_at_call 37; refine (forms_any _).mono ?_; rintro e w1 ⟨rfl, hb1⟩))
  go_wp2_with (fail)
  refine (split_any _ _ _ _ _ _).mono ?_
  rintro e w2 ⟨rfl, hb2⟩
  have k1 : Below w.heap.size w w1 := Below.trans (((Below.refl _ _).alloc (Nat.le_refl _) _).drew) (hb1.mono (by simp))
  have k2 : Below w.heap.size w w2 := k1.trans (hb2.mono k1.size)
  go_wp2_with (fail)
  go_loopw [21] (fun i wr => ∃ k : Nat, k ≤ 5 ∧ i = .int .i64 k ∧ Hid (∀ j, j < k → okI o a b c m j = true) ∧ Below w.heap.size w wr) (fun i _ => 5 - (intOf i).toNat)
  case atStart => exact ⟨0, by omega, rfl, Lib.hid (fun j hj => by omega), k2⟩
  case round =>
    obtain ⟨k, hk, rfl, HK, kr⟩ := hrel
    have hc : k = 0 ∨ k = 1 ∨ k = 2 ∨ k = 3 ∨ k = 4 ∨ k = 5 := by omega
    rcases hc with rfl | rfl | rfl | rfl | rfl | rfl
    · have e1 : (o / 256 != 0) = false := by simp; omega
      go_wp2_with (fail)
      refine (fields12_any _).mono ?_
      rintro e w3 ⟨rfl, hb3⟩
      go_wp2_with (fail)
      go_roundw
      case rel => exact ⟨1, by omega, rfl, Lib.hid (fun j hj => by (have : j = 0 := by omega); subst this; rfl), kr.trans (hb3.mono kr.size)⟩
      case measure => simp [intOf]
    · have d2 : decide (a < 0) = false := by simp; omega
      have e1 : (a / 8 != 0) = false := by simp; omega
      by_cases hz : a = 0
      · have hz' : (a != 0) = false := by simp [hz]
        have HZ := Lib.hid hz
        clear hz
        go_wp2_with (fail)
        refine (fields12_any _).mono ?_
        rintro e w3 ⟨rfl, hb3⟩
        go_wp2_with (fail)
        go_roundw
        case rel =>
          refine ⟨2, by omega, rfl, Lib.hid (fun j hj => ?_), kr.trans (hb3.mono kr.size)⟩
          by_cases e : j = 1
          · subst e; simp [okI, partI, HZ.out]
          · exact HK.out j (by omega)
        case measure => simp [intOf]
      · have hz' : (a != 0) = true := by simp [hz]
        cases hn : needB o 1
        · have hR : rightI o a b c m = false := rightI_not o a b c m 1 (by omega) (by simp [okI, partI, hz, hn])
          have HR := Lib.hid hR
          clear hR hz
          go_wp2_with (fail)
          refine (fields12_any _).mono ?_
          rintro e w3 ⟨rfl, hb3⟩
          go_wp2_with (fail)
          refine (cont_a o h0 h1 _).mono ?_
          rintro e w4 ⟨rfl, rfl⟩
          go_wp2_with (fail)
          go_ret
          exact ⟨by rw [HR.out]; rfl, kr.trans (hb3.mono kr.size)⟩
        · clear hz
          go_wp2_with (fail)
          refine (fields12_any _).mono ?_
          rintro e w3 ⟨rfl, hb3⟩
          go_wp2_with (fail)
          refine (cont_a o h0 h1 _).mono ?_
          rintro e w4 ⟨rfl, rfl⟩
          go_wp2_with (fail)
          go_roundw
          case rel =>
            refine ⟨2, by omega, rfl, Lib.hid (fun j hj => ?_), kr.trans (hb3.mono kr.size)⟩
            by_cases e : j = 1
            · subst e; simp [okI, hn]
            · exact HK.out j (by omega)
          case measure => simp [intOf]
    · have d2 : decide (b < 0) = false := by simp; omega
      have e1 : (b / 8 != 0) = false := by simp; omega
      by_cases hz : b = 0
      · have hz' : (b != 0) = false := by simp [hz]
        have HZ := Lib.hid hz
        clear hz
        go_wp2_with (fail)
        refine (fields12_any _).mono ?_
        rintro e w3 ⟨rfl, hb3⟩
        go_wp2_with (fail)
        go_roundw
        case rel =>
          refine ⟨3, by omega, rfl, Lib.hid (fun j hj => ?_), kr.trans (hb3.mono kr.size)⟩
          by_cases e : j = 2
          · subst e; simp [okI, partI, HZ.out]
          · exact HK.out j (by omega)
        case measure => simp [intOf]
      · have hz' : (b != 0) = true := by simp [hz]
        cases hn : needB o 2
        · have hR : rightI o a b c m = false := rightI_not o a b c m 2 (by omega) (by simp [okI, partI, hz, hn])
          have HR := Lib.hid hR
          clear hR hz
          go_wp2_with (fail)
          refine (fields12_any _).mono ?_
          rintro e w3 ⟨rfl, hb3⟩
          go_wp2_with (fail)
          refine (cont_b o h0 h1 _).mono ?_
          rintro e w4 ⟨rfl, rfl⟩
          go_wp2_with (fail)
          go_ret
          exact ⟨by rw [HR.out]; rfl, kr.trans (hb3.mono kr.size)⟩
        · clear hz
          go_wp2_with (fail)
          refine (fields12_any _).mono ?_
          rintro e w3 ⟨rfl, hb3⟩
          go_wp2_with (fail)
          refine (cont_b o h0 h1 _).mono ?_
          rintro e w4 ⟨rfl, rfl⟩
          go_wp2_with (fail)
          go_roundw
          case rel =>
            refine ⟨3, by omega, rfl, Lib.hid (fun j hj => ?_), kr.trans (hb3.mono kr.size)⟩
            by_cases e : j = 2
            · subst e; simp [okI, hn]
            · exact HK.out j (by omega)
          case measure => simp [intOf]
    · have d2 : decide (c < 0) = false := by simp; omega
      have e1 : (c / 8 != 0) = false := by simp; omega
      by_cases hz : c = 0
      · have hz' : (c != 0) = false := by simp [hz]
        have HZ := Lib.hid hz
        clear hz
        go_wp2_with (fail)
        refine (fields12_any _).mono ?_
        rintro e w3 ⟨rfl, hb3⟩
        go_wp2_with (fail)
        go_roundw
        case rel =>
          refine ⟨4, by omega, rfl, Lib.hid (fun j hj => ?_), kr.trans (hb3.mono kr.size)⟩
          by_cases e : j = 3
          · subst e; simp [okI, partI, HZ.out]
          · exact HK.out j (by omega)
        case measure => simp [intOf]
      · have hz' : (c != 0) = true := by simp [hz]
        cases hn : needB o 3
        · have hR : rightI o a b c m = false := rightI_not o a b c m 3 (by omega) (by simp [okI, partI, hz, hn])
          have HR := Lib.hid hR
          clear hR hz
          go_wp2_with (fail)
          refine (fields12_any _).mono ?_
          rintro e w3 ⟨rfl, hb3⟩
          go_wp2_with (fail)
          refine (cont_c o h0 h1 _).mono ?_
          rintro e w4 ⟨rfl, rfl⟩
          go_wp2_with (fail)
          go_ret
          exact ⟨by rw [HR.out]; rfl, kr.trans (hb3.mono kr.size)⟩
        · clear hz
          go_wp2_with (fail)
          refine (fields12_any _).mono ?_
          rintro e w3 ⟨rfl, hb3⟩
          go_wp2_with (fail)
          refine (cont_c o h0 h1 _).mono ?_
          rintro e w4 ⟨rfl, rfl⟩
          go_wp2_with (fail)
          go_roundw
          case rel =>
            refine ⟨4, by omega, rfl, Lib.hid (fun j hj => ?_), kr.trans (hb3.mono kr.size)⟩
            by_cases e : j = 3
            · subst e; simp [okI, hn]
            · exact HK.out j (by omega)
          case measure => simp [intOf]
    · have d2 : decide (m < 0) = false := by simp; omega
      have e1 : (m / 65536 != 0) = false := by simp; omega
      by_cases hz : m = 0
      · have hz' : (m != 0) = false := by simp [hz]
        have HZ := Lib.hid hz
        clear hz
        go_wp2_with (fail)
        refine (fields12_any _).mono ?_
        rintro e w3 ⟨rfl, hb3⟩
        go_wp2_with (fail)
        go_roundw
        case rel =>
          refine ⟨5, by omega, rfl, Lib.hid (fun j hj => ?_), kr.trans (hb3.mono kr.size)⟩
          by_cases e : j = 4
          · subst e; simp [okI, partI, HZ.out]
          · exact HK.out j (by omega)
        case measure => simp [intOf]
      · have hz' : (m != 0) = true := by simp [hz]
        cases hn : needB o 4
        · have hR : rightI o a b c m = false := rightI_not o a b c m 4 (by omega) (by simp [okI, partI, hz, hn])
          have HR := Lib.hid hR
          clear hR hz
          go_wp2_with (fail)
          refine (fields12_any _).mono ?_
          rintro e w3 ⟨rfl, hb3⟩
          go_wp2_with (fail)
          refine (cont_i o h0 h1 _).mono ?_
          rintro e w4 ⟨rfl, rfl⟩
          go_wp2_with (fail)
          go_ret
          exact ⟨by rw [HR.out]; rfl, kr.trans (hb3.mono kr.size)⟩
        · clear hz
          go_wp2_with (fail)
          refine (fields12_any _).mono ?_
          rintro e w3 ⟨rfl, hb3⟩
          go_wp2_with (fail)
          refine (cont_i o h0 h1 _).mono ?_
          rintro e w4 ⟨rfl, rfl⟩
          go_wp2_with (fail)
          go_roundw
          case rel =>
            refine ⟨5, by omega, rfl, Lib.hid (fun j hj => ?_), kr.trans (hb3.mono kr.size)⟩
            by_cases e : j = 4
            · subst e; simp [okI, hn]
            · exact HK.out j (by omega)
          case measure => simp [intOf]
    · have hR : Hid (rightI o a b c m = true) := Lib.hid (rightI_of o a b c m h1 HK.out)
      go_wp2_with (fail)
      go_ret
      exact ⟨by rw [hR.out]; rfl, kr⟩

theorem right_any12 (o a b c m : Int) (w : World) (h0 : 0 ≤ o) (a0 : 0 ≤ a) (a1 : a < 8) (b0 : 0 ≤ b) (b1 : b < 8) (c0 : 0 ≤ c) (c1 : c < 8) (m0 : 0 ≤ m) (m1 : m < 65536) :
    Calls Try.prog 32 #[.agg #[.int .i64 o, .int .i64 a, .int .i64 b, .int .i64 c, .int .i64 m]] w fun e w' => e = .returned (.bool (rightI o a b c m)) ∧ Below w.heap.size w w' := by
  by_cases h : o ≤ 11
  · exact right_walk o a b c m w h0 h a0 a1 b0 b1 c0 c1 m0 m1
  · have : rightI o a b c m = false := by simp [rightI]; intro h'; omega
    rw [this]
    exact right_big o a b c m w h0 (by omega)

end Go.Proofs.Ytfjfdhojhikgdaa
