/- CpuSums returns true, by a walk over its text. -/
import Derived.Test.YtfjfdhojhikgdaaLawCpu
import Derived.Test.YtfjfdhojhikgdaaPlain13
namespace Go.Proofs.Ytfjfdhojhikgdaa
set_option linter.unusedSimpArgs false
set_option linter.unusedVariables false
open Go.RowKit
set_option maxHeartbeats 8000000

theorem cpuSums_out (n : Int) (w : World) (h : n < 0 ∨ (0 ≤ n ∧ 300 < n)) :
    Calls Try.prog 7 #[.int .i64 n] w fun e w' => e = .returned (.bool true) ∧ Below w.heap.size w w' := by
  rcases h with h | ⟨h, h2⟩
  all_goals
    go_enter Try.func7, Try.ntmps7
    go_wp2_with (fail)
    refine (awake13 _).mono ?_
    rintro e w1 ⟨rfl, hb1⟩
    go_wp2_with (fail)
    go_ret
    exact ⟨rfl, hb1⟩

def sum13 (n : Int) : List Int := [1, 1, 0, 0, n, 1, 2, 0, 0, 1, 9, 1, 0, 0, 6, 2, 3, 3, 1, 0, 3, 1, 1, 2, 0, 8, 0, 0, 0, 2, 7, 3, 0, 0, 8, 0, 0, 0, 0, 0, 0, 0, 0, 0, 0]
theorem sum13_ok (n : Int) (h0 : 0 ≤ n) (h1 : n ≤ 300) : InsOk (fun i j => (sum13 n).getD (i * 5 + j) 0) 9 := by
  intro i hi
  have : i = 0 ∨ i = 1 ∨ i = 2 ∨ i = 3 ∨ i = 4 ∨ i = 5 ∨ i = 6 ∨ i = 7 ∨ i = 8 := by omega
  rcases this with rfl | rfl | rfl | rfl | rfl | rfl | rfl | rfl | rfl <;> simp [sum13] <;> omega
theorem sum13_W (n : Int) : SumW (progV (sum13 n) 9) n := by
  refine ⟨?_, ?_, ?_, ?_, ?_, ?_, ?_, ?_⟩ <;> simp [progV, wordX, sum13, rightI, needB]

set_option maxRecDepth 100000 in
theorem cpuSums_walk (n : Int) (w : World) (h0 : 0 ≤ n) (h1 : n ≤ 300) :
    Calls Try.prog 7 #[.int .i64 n] w fun e w' => e = .returned (.bool true) ∧ Below w.heap.size w w' := by
  obtain ⟨k, rfl⟩ := Int.eq_ofNat_of_zero_le h0
  obtain ⟨r', W', hrun, hr3, hr8, hW8⟩ := sum_all (progV (sum13 k) 9) k (by omega) (sum13_W k)
  have hte := tri_eq k
  have htb : 0 ≤ tri k ∧ tri k ≤ 300000 := by rcases tri_bd k with h | h <;> omega
  obtain ⟨TR, hTR⟩ : ∃ T, T = tri k := ⟨_, rfl⟩
  rw [← hTR] at hr3 hW8 hte htb
  have hm0 : 0 ≤ (k : Int) * ((k : Int) + 1) := by omega
  have hm1 : (k : Int) * ((k : Int) + 1) ≤ 600000 := by omega
  have hdiv : Hid ((k : Int) * ((k : Int) + 1) / 2 = TR) := by show _ = _; omega
  have HRUN := Lib.hid hrun; have H3 := Lib.hid hr3; have H8 := Lib.hid hr8; have HW8 := Lib.hid hW8
  clear hrun hr3 hr8 hW8 hte hTR
  go_enter Try.func7, Try.ntmps7
  go_wp2_with (fail)
  refine (awake13 _).mono ?_
  rintro e w1 ⟨rfl, hb1⟩
  go_wp2_with (fail)
  refine (words_walk w1.heap.size 9 9 (fun i j => (sum13 k).getD (i * 5 + j) 0) _ (by simp) (ins_cells w1 (sum13 k) 50 9 rfl) (sum13_ok k (by omega) (by omega)) (by omega) (by omega)).mono ?_
  rintro e w2 ⟨g, c, rfl, hg, hgl, hgc, hb2⟩
  have k2 : Below w.heap.size w w2 := hb1.trans (Below.trans ((Below.refl _ _).alloc hb1.size _) (hb2.mono (by have := hb1.size; simp; omega)))
  obtain ⟨w3, hw3⟩ : ∃ w3, w3 = w2.alloc (.cells #[.int .u64 0, .int .u64 0, .int .u64 0, .int .u64 0, .int .u64 0, .int .u64 0, .int .u64 0, .int .u64 0, .int .u64 0] 25) := ⟨_, rfl⟩
  have hb3 : Below w2.heap.size w2 w3 := by rw [hw3]; exact (Below.refl _ _).alloc (Nat.le_refl _) _
  have k3 := k2.trans (hb3.mono k2.size)
  have hr3 : RegsIn w3 w2.heap.size (fun _ => 0) := by rw [hw3]; exact regs_new _
  have s3 : w2.heap.size < w3.heap.size := by rw [hw3]; simp
  have ha : WArg w3 (some ⟨g, 0, none⟩) 9 (progV (sum13 k) 9) := by
    refine Or.inr ⟨g, 0, rfl, by omega, fun i hi => ?_⟩
    have := keep hb3 hgl (hgc i hi)
    rw [Nat.zero_add, this]; simp [progV, hi]
  go_wp2_with (fail)
  rw [← hw3]
  clear hw3
  refine (of_any _ 9 c (progV (sum13 k) 9) 8 _ ha (fun h => by cases h) (progV_bd (sum13_ok k (by omega) (by omega))) (by omega)).mono ?_
  rintro e w4 ⟨pf, bk, c4, rfl, hf4, hpf, hbk, hb4⟩
  have k4 := k3.trans (hb4.mono k3.size)
  have hr4 := hr3.below hb4
  obtain ⟨R, hR⟩ : ∃ R, R = runM 9 8 5000 (fun _ => 0) (progV (sum13 k) 9) := ⟨_, rfl⟩
  have hq := HRUN.out
  unfold RunsTo at hq
  rw [← hR] at hq
  have HQ := Lib.hid hq
  clear hq
  go_wp2_with (fail)
  refine (run_walk w2.heap.size pf bk w4.heap.size 9 c4 (progV (sum13 k) 9) (fun _ => 0) 8 [] none 5000 _ hr4 hf4.flat (by simp) (by omega) (by have := hr4.row.lt; omega) (by omega) (by omega) R hR.symm).mono ?_
  rintro e w5 ⟨rfl, hr5, ⟨lb5, hf5, hn5⟩, ht5⟩
  have k5 : Below w.heap.size w w5 := k4.trans (ht5.below k4.size (fun j hj => by
    have := k2.size
    have := k3.size
    rintro (h | h | h | h)
    · omega
    · omega
    · omega
    · cases h))
  obtain ⟨q1, q2, q3, q4⟩ := HQ.out
  rw [q3] at hr5
  rw [q4] at hf5
  rw [q1, q2]
  clear q1 q2 q3 q4 HQ HRUN
  have c3 : w5.cell? ⟨w2.heap.size, 3, none⟩ = some (.int .u64 TR) := by rw [hr5.row.cell 3 (by omega), H3.out]
  have c8 : w5.cell? ⟨w2.heap.size, 8, none⟩ = some (.int .u64 7) := by rw [hr5.row.cell 8 (by omega), H8.out]
  have cf := hf5.ptr
  have cw : w5.cell? ⟨bk, 8, none⟩ = some (.int .u64 TR) := by rw [hf5.words.cell 8 (by omega), HW8.out]
  obtain ⟨tb0, tb1⟩ := htb
  have hq : (((4 * k + 4 : Nat) : Int) == 4 * (k : Int) + 4) = true := by simp
  have hq2 : (TR == (k : Int) * ((k : Int) + 1) / 2) = true := by rw [hdiv.out]; simp
  go_wp2_with (fail)
  go_ret
  exact ⟨rfl, k5⟩

end Go.Proofs.Ytfjfdhojhikgdaa
