/- CpuFails returns true, by a walk over its text. -/
import Derived.Test.YtfjfdhojhikgdaaLawCpu
namespace Go.Proofs.Ytfjfdhojhikgdaa
set_option linter.unusedSimpArgs false
set_option linter.unusedVariables false
open Go.RowKit
set_option maxHeartbeats 8000000

theorem cpuFails_long (r : Nat → Int) (a : Option Addr) (n cap : Nat) (first : Int) (w : World) (hlen : 100 < n) (hm : n ≤ 9223372036854775807) :
    Calls Try.prog 8 #[.agg #[.int .u64 (r 0), .int .u64 (r 1), .int .u64 (r 2), .int .u64 (r 3), .int .u64 (r 4), .int .u64 (r 5), .int .u64 (r 6), .int .u64 (r 7), .int .u64 (r 8)], .slice a n cap, .int .i64 first] w fun e w' => e = .returned (.bool true) ∧ Below w.heap.size w w' := by
  go_enter Try.func8, Try.ntmps8
  go_wp2_with (fail)
  refine (awake13 _).mono ?_
  rintro e w1 ⟨rfl, hb1⟩
  go_wp2_with (fail)
  go_ret
  exact ⟨rfl, Below.trans ((Below.refl _ _).alloc (Nat.le_refl _) _) (hb1.mono (by simp))⟩

set_option maxRecDepth 100000 in
theorem cpuFails_walk (r V : Nat → Int) (a : Option Addr) (n cap : Nat) (first : Int) (w : World) (hr : ∀ i, 0 ≤ r i ∧ r i < 18446744073709551616) (ha : WArg w a n V) (hnil : a = none → n = 0 ∧ cap = 0) (hV : ∀ i, 0 ≤ V i ∧ V i < 18446744073709551616) (hn : n ≤ 100) :
    Calls Try.prog 8 #[.agg #[.int .u64 (r 0), .int .u64 (r 1), .int .u64 (r 2), .int .u64 (r 3), .int .u64 (r 4), .int .u64 (r 5), .int .u64 (r 6), .int .u64 (r 7), .int .u64 (r 8)], .slice a n cap, .int .i64 first] w fun e w' => e = .returned (.bool true) ∧ Below w.heap.size w w' := by
  go_enter Try.func8, Try.ntmps8
  go_wp2_with (fail)
  refine (awake13 _).mono ?_
  rintro e w1 ⟨rfl, hb1⟩
  have hrB := (regs_lay w r hr).below hb1
  have k1 : Below w.heap.size w w1 := Below.trans ((Below.refl _ _).alloc (Nat.le_refl _) _) (hb1.mono (by simp))
  have hB1 : w.heap.size < w1.heap.size := hrB.row.lt
  have c0 : w1.cell? ⟨w.heap.size, 0, none⟩ = some (.int .u64 (r 0)) := hrB.row.cell 0 (by omega)
  have c1 : w1.cell? ⟨w.heap.size, 1, none⟩ = some (.int .u64 (r 1)) := hrB.row.cell 1 (by omega)
  have c2 : w1.cell? ⟨w.heap.size, 2, none⟩ = some (.int .u64 (r 2)) := hrB.row.cell 2 (by omega)
  have c3 : w1.cell? ⟨w.heap.size, 3, none⟩ = some (.int .u64 (r 3)) := hrB.row.cell 3 (by omega)
  have c4 : w1.cell? ⟨w.heap.size, 4, none⟩ = some (.int .u64 (r 4)) := hrB.row.cell 4 (by omega)
  have c5 : w1.cell? ⟨w.heap.size, 5, none⟩ = some (.int .u64 (r 5)) := hrB.row.cell 5 (by omega)
  have c6 : w1.cell? ⟨w.heap.size, 6, none⟩ = some (.int .u64 (r 6)) := hrB.row.cell 6 (by omega)
  have c7 : w1.cell? ⟨w.heap.size, 7, none⟩ = some (.int .u64 (r 7)) := hrB.row.cell 7 (by omega)
  have c8 : w1.cell? ⟨w.heap.size, 8, none⟩ = some (.int .u64 (r 8)) := hrB.row.cell 8 (by omega)
  obtain ⟨w2, hw2⟩ : ∃ w2, w2 = w1.alloc (.cells #[.int .u64 (r 0), .int .u64 (r 1), .int .u64 (r 2), .int .u64 (r 3), .int .u64 (r 4), .int .u64 (r 5), .int .u64 (r 6), .int .u64 (r 7), .int .u64 (r 8)] 25) := ⟨_, rfl⟩
  have hb2 : Below w1.heap.size w1 w2 := by rw [hw2]; exact (Below.refl _ _).alloc (Nat.le_refl _) _
  have hr2 : RegsIn w2 w1.heap.size r := by rw [hw2]; exact regs_lay w1 r hr
  have hrB2 := hrB.below hb2
  have k2 := k1.trans (hb2.mono k1.size)
  have s2 : w1.heap.size < w2.heap.size := hr2.row.lt
  have ha2 := ha.below k2
  go_wp2_with (fail)
  rw [← hw2]
  clear hw2
  refine (of_any a n cap V first _ ha2 hnil hV (by omega)).mono ?_
  rintro e w3 ⟨pf, bk, c3, rfl, hf3, hpf, hbk, hb3⟩
  have k3 := k2.trans (hb3.mono k2.size)
  have hr3 := hr2.below hb3
  have hrB3 := hrB2.below hb3
  obtain ⟨R, hR⟩ : ∃ R, R = stepM n first r V := ⟨_, rfl⟩
  have hF : R.e ≠ 0 → R.W = V ∧ R.r = (if R.e = 14 then setF r 8 ((r 8 % 65536 + 1) % 65536) else r) := by rw [hR]; exact stepM_fails n first r V
  have HF := Lib.hid hF
  have HR := Lib.hid hR
  clear hF hR
  have hk1 := k1.size
  have np1 : ¬ w.heap.size = w1.heap.size := by omega
  have npf : ¬ w.heap.size = pf := by omega
  have nbk : ¬ w.heap.size = bk := by omega
  go_wp2_with (fail)
  refine (step_walk w1.heap.size pf bk w3.heap.size n c3 V r first [] none _ hr3 hf3.flat (by simp) (by have := hr3.row.lt; omega) (by omega) (by omega) R HR.out.symm).mono ?_
  rintro e w4 ⟨rfl, hr4, ⟨lb4, hf4, hn4⟩, ht4⟩
  have h8 := eq8
  have nw : ∀ k, k ≤ w.heap.size → ¬ TS w1.heap.size pf bk none k := by
    intro k hk
    rintro (h | h | h | h)
    · omega
    · omega
    · omega
    · cases h
  have k4 : Below w.heap.size w w4 := k3.trans (ht4.below k3.size (fun k hk => nw k (by omega)))
  have hrB4 := hrB3.touch ht4 (nw _ (Nat.le_refl _))
  have ha4 := ha.below k4
  have q0 := hf4.ptr
  obtain ⟨rb, hrb⟩ : ∃ rb : Bool, rb = decide (∀ i, i < n → R.W i = V i) := ⟨_, rfl⟩
  have hrb1 : rb = true ↔ n = n ∧ ∀ i, i < n → R.W i = V i := by rw [hrb]; simp
  have hrb2 : R.W = V → rb = true := by intro h; rw [hrb, h]; simp
  have HRB := Lib.hid hrb1; have HRB2 := Lib.hid hrb2
  clear hrb1 hrb hrb2
  go_wp2_with (fail)
  refine (same_any _ _ n n c3 cap R.W V _ (Or.inr ⟨bk, 0, rfl, hf4.words.lt, fun i hi => by rw [Nat.zero_add]; exact hf4.words.cell i hi⟩) ha4 (by omega) (by omega) rb (by have := HRB.out; simpa using this)).mono ?_
  rintro e w5 ⟨rfl, hb5⟩
  have k5 := k4.trans (hb5.mono k4.size)
  have hr5 := hr4.below hb5
  have hrB5 := hrB4.below hb5
  have hl5 := hrB5.row.lt
  have hl6 := hr5.row.lt
  by_cases h14 : R.e = 14
  · obtain ⟨g1, g2⟩ := HF.out (by omega)
    rw [if_pos h14] at g2
    have hb' := HRB2.out g1
    rw [g2] at hr5
    subst hb'
    have e14 : (R.e == 14) = true := by simp [h14]
    obtain ⟨p0, p1⟩ := hr 8
    clear g1 g2 h14
    have c0 : w5.cell? ⟨w.heap.size, 0, none⟩ = some (.int .u64 (r 0)) := hrB5.row.cell 0 (by omega)
    have c1 : w5.cell? ⟨w.heap.size, 1, none⟩ = some (.int .u64 (r 1)) := hrB5.row.cell 1 (by omega)
    have c2 : w5.cell? ⟨w.heap.size, 2, none⟩ = some (.int .u64 (r 2)) := hrB5.row.cell 2 (by omega)
    have c3 : w5.cell? ⟨w.heap.size, 3, none⟩ = some (.int .u64 (r 3)) := hrB5.row.cell 3 (by omega)
    have c4 : w5.cell? ⟨w.heap.size, 4, none⟩ = some (.int .u64 (r 4)) := hrB5.row.cell 4 (by omega)
    have c5 : w5.cell? ⟨w.heap.size, 5, none⟩ = some (.int .u64 (r 5)) := hrB5.row.cell 5 (by omega)
    have c6 : w5.cell? ⟨w.heap.size, 6, none⟩ = some (.int .u64 (r 6)) := hrB5.row.cell 6 (by omega)
    have c7 : w5.cell? ⟨w.heap.size, 7, none⟩ = some (.int .u64 (r 7)) := hrB5.row.cell 7 (by omega)
    have c8 : w5.cell? ⟨w.heap.size, 8, none⟩ = some (.int .u64 (r 8)) := hrB5.row.cell 8 (by omega)
    have d0 : w5.cell? ⟨w1.heap.size, 0, none⟩ = some (.int .u64 (r 0)) := hr5.row.cell 0 (by omega)
    have d1 : w5.cell? ⟨w1.heap.size, 1, none⟩ = some (.int .u64 (r 1)) := hr5.row.cell 1 (by omega)
    have d2 : w5.cell? ⟨w1.heap.size, 2, none⟩ = some (.int .u64 (r 2)) := hr5.row.cell 2 (by omega)
    have d3 : w5.cell? ⟨w1.heap.size, 3, none⟩ = some (.int .u64 (r 3)) := hr5.row.cell 3 (by omega)
    have d4 : w5.cell? ⟨w1.heap.size, 4, none⟩ = some (.int .u64 (r 4)) := hr5.row.cell 4 (by omega)
    have d5 : w5.cell? ⟨w1.heap.size, 5, none⟩ = some (.int .u64 (r 5)) := hr5.row.cell 5 (by omega)
    have d6 : w5.cell? ⟨w1.heap.size, 6, none⟩ = some (.int .u64 (r 6)) := hr5.row.cell 6 (by omega)
    have d7 : w5.cell? ⟨w1.heap.size, 7, none⟩ = some (.int .u64 (r 7)) := hr5.row.cell 7 (by omega)
    have d8 : w5.cell? ⟨w1.heap.size, 8, none⟩ = some (.int .u64 ((r 8 % 65536 + 1) % 65536)) := hr5.row.cell 8 (by omega)
    go_wp2_with (fail)
    go_ret
    exact ⟨rfl, k5.alloc k5.size _⟩
  · have e14 : (R.e == 14) = false := by simp [h14]
    by_cases h0 : R.e = 0
    · have e0 : (R.e == 0) = true := by simp [h0]
      clear h0 h14
      go_wp2_with (fail)
      go_ret
      exact ⟨rfl, k5⟩
    · have e0 : (R.e == 0) = false := by simp [h0]
      obtain ⟨g1, g2⟩ := HF.out h0
      rw [if_neg h14] at g2
      have hb' := HRB2.out g1
      rw [g2] at hr5
      subst hb'
      clear g1 g2 h0 h14
      have c0 : w5.cell? ⟨w.heap.size, 0, none⟩ = some (.int .u64 (r 0)) := hrB5.row.cell 0 (by omega)
      have c1 : w5.cell? ⟨w.heap.size, 1, none⟩ = some (.int .u64 (r 1)) := hrB5.row.cell 1 (by omega)
      have c2 : w5.cell? ⟨w.heap.size, 2, none⟩ = some (.int .u64 (r 2)) := hrB5.row.cell 2 (by omega)
      have c3 : w5.cell? ⟨w.heap.size, 3, none⟩ = some (.int .u64 (r 3)) := hrB5.row.cell 3 (by omega)
      have c4 : w5.cell? ⟨w.heap.size, 4, none⟩ = some (.int .u64 (r 4)) := hrB5.row.cell 4 (by omega)
      have c5 : w5.cell? ⟨w.heap.size, 5, none⟩ = some (.int .u64 (r 5)) := hrB5.row.cell 5 (by omega)
      have c6 : w5.cell? ⟨w.heap.size, 6, none⟩ = some (.int .u64 (r 6)) := hrB5.row.cell 6 (by omega)
      have c7 : w5.cell? ⟨w.heap.size, 7, none⟩ = some (.int .u64 (r 7)) := hrB5.row.cell 7 (by omega)
      have c8 : w5.cell? ⟨w.heap.size, 8, none⟩ = some (.int .u64 (r 8)) := hrB5.row.cell 8 (by omega)
      have d0 : w5.cell? ⟨w1.heap.size, 0, none⟩ = some (.int .u64 (r 0)) := hr5.row.cell 0 (by omega)
      have d1 : w5.cell? ⟨w1.heap.size, 1, none⟩ = some (.int .u64 (r 1)) := hr5.row.cell 1 (by omega)
      have d2 : w5.cell? ⟨w1.heap.size, 2, none⟩ = some (.int .u64 (r 2)) := hr5.row.cell 2 (by omega)
      have d3 : w5.cell? ⟨w1.heap.size, 3, none⟩ = some (.int .u64 (r 3)) := hr5.row.cell 3 (by omega)
      have d4 : w5.cell? ⟨w1.heap.size, 4, none⟩ = some (.int .u64 (r 4)) := hr5.row.cell 4 (by omega)
      have d5 : w5.cell? ⟨w1.heap.size, 5, none⟩ = some (.int .u64 (r 5)) := hr5.row.cell 5 (by omega)
      have d6 : w5.cell? ⟨w1.heap.size, 6, none⟩ = some (.int .u64 (r 6)) := hr5.row.cell 6 (by omega)
      have d7 : w5.cell? ⟨w1.heap.size, 7, none⟩ = some (.int .u64 (r 7)) := hr5.row.cell 7 (by omega)
      have d8 : w5.cell? ⟨w1.heap.size, 8, none⟩ = some (.int .u64 (r 8)) := hr5.row.cell 8 (by omega)
      go_wp2_with (fail)
      go_ret
      exact ⟨rfl, k5⟩

end Go.Proofs.Ytfjfdhojhikgdaa
