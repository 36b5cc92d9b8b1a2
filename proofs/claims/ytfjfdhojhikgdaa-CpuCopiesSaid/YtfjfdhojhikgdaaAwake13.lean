/- The laws' awake of layer 13 returns true, by a walk over its text. -/
import Derived.Test.YtfjfdhojhikgdaaWords13
namespace Go.Proofs.Ytfjfdhojhikgdaa
set_option linter.unusedSimpArgs false
set_option linter.unusedVariables false
open Go.RowKit
set_option maxHeartbeats 4000000

theorem ins_cells (w : World) (ints : List Int) (t : TypeId) (n : Nat) (hl : ints.length = n * 5) : ∀ i, i < n → ∀ j, j < 5 → (w.alloc (.cells (ints.map (Value.int .i64)).toArray t)).cell? ⟨w.heap.size, i * 5 + j, none⟩ = some (.int .i64 (ints.getD (i * 5 + j) 0)) := by
  intro i hi j hj
  have h := (RowF.new w (ints.map (Value.int .i64)) t).cell (i * 5 + j) (by simp; omega)
  rw [h]
  have hlt : i * 5 + j < ints.length := by omega
  simp [hlt]

/-- The words of instructions, as a law lays them. -/
def progV (ints : List Int) (n : Nat) (i : Nat) : Int := if i < n then wordX (fun i j => ints.getD (i * 5 + j) 0) i else 0
theorem progV_bd {ints : List Int} {n : Nat} (h : InsOk (fun i j => ints.getD (i * 5 + j) 0) n) (i : Nat) : 0 ≤ progV ints n i ∧ progV ints n i < 18446744073709551616 := by
  unfold progV; split
  · exact wordX_bd h (by assumption)
  · omega

def aw13 : List Int := [1, 1, 0, 0, 5, 2, 1, 1, 1, 0, 0, 0, 0, 0, 0]
theorem aw13_ok : InsOk (fun i j => aw13.getD (i * 5 + j) 0) 3 := by
  intro i hi
  have : i = 0 ∨ i = 1 ∨ i = 2 := by omega
  rcases this with rfl | rfl | rfl <;> simp [aw13]
theorem aw13_run : (runM 3 0 9 (fun _ => 0) (progV aw13 3)).done = 2 ∧ (runM 3 0 9 (fun _ => 0) (progV aw13 3)).e = 13 ∧ (runM 3 0 9 (fun _ => 0) (progV aw13 3)).r 1 = 10 ∧ (runM 3 0 9 (fun _ => 0) (progV aw13 3)).r 8 = 2 := by decide +kernel

theorem regs_new (w : World) : RegsIn (w.alloc (.cells #[.int .u64 0, .int .u64 0, .int .u64 0, .int .u64 0, .int .u64 0, .int .u64 0, .int .u64 0, .int .u64 0, .int .u64 0] 25)) w.heap.size (fun _ => 0) := by
  refine ⟨(RowF.new w [.int .u64 0, .int .u64 0, .int .u64 0, .int .u64 0, .int .u64 0, .int .u64 0, .int .u64 0, .int .u64 0, .int .u64 0] 25).congr (fun j hj => ?_), fun i => by omega⟩
  have : j = 0 ∨ j = 1 ∨ j = 2 ∨ j = 3 ∨ j = 4 ∨ j = 5 ∨ j = 6 ∨ j = 7 ∨ j = 8 := by simp at hj; omega
  rcases this with rfl | rfl | rfl | rfl | rfl | rfl | rfl | rfl | rfl <;> rfl

set_option maxRecDepth 100000 in
theorem awake13 (w : World) : Calls Try.prog 10 #[] w fun e w' => e = .returned (.bool true) ∧ Below w.heap.size w w' := by
  have HQ := Lib.hid aw13_run
  go_enter Try.func10, Try.ntmps10
  go_wp2_with (fail)
  refine (words_walk w.heap.size 3 3 (fun i j => aw13.getD (i * 5 + j) 0) _ (by simp) (ins_cells w aw13 50 3 rfl) aw13_ok (by omega) (by omega)).mono ?_
  rintro e w1 ⟨g, c, rfl, hg, hgl, hgc, hb1⟩
  have k1 : Below w.heap.size w w1 := Below.trans ((Below.refl _ _).alloc (Nat.le_refl _) _) (hb1.mono (by simp))
  obtain ⟨w2, hw2⟩ : ∃ w2, w2 = w1.alloc (.cells #[.int .u64 0, .int .u64 0, .int .u64 0, .int .u64 0, .int .u64 0, .int .u64 0, .int .u64 0, .int .u64 0, .int .u64 0] 25) := ⟨_, rfl⟩
  have hb2 : Below w1.heap.size w1 w2 := by rw [hw2]; exact (Below.refl _ _).alloc (Nat.le_refl _) _
  have k2 := k1.trans (hb2.mono k1.size)
  have hr2 : RegsIn w2 w1.heap.size (fun _ => 0) := by rw [hw2]; exact regs_new _
  have s2 : w1.heap.size < w2.heap.size := by rw [hw2]; simp
  have ha : WArg w2 (some ⟨g, 0, none⟩) 3 (progV aw13 3) := by
    refine Or.inr ⟨g, 0, rfl, by omega, fun i hi => ?_⟩
    have := keep hb2 hgl (hgc i hi)
    rw [Nat.zero_add, this]; simp [progV, hi]
  go_wp2_with (fail)
  rw [← hw2]
  clear hw2
  refine (of_any _ 3 c (progV aw13 3) 0 _ ha (fun h => by cases h) (progV_bd aw13_ok) (by omega)).mono ?_
  rintro e w3 ⟨pf, bk, c3, rfl, hf3, hpf, hbk, hb3⟩
  have k3 := k2.trans (hb3.mono k2.size)
  have hr3 := hr2.below hb3
  obtain ⟨R, hR⟩ : ∃ R, R = runM 3 0 9 (fun _ => 0) (progV aw13 3) := ⟨_, rfl⟩
  have hq := HQ.out
  rw [← hR] at hq
  obtain ⟨hq1, hq2, hq3, hq4⟩ := hq
  have HQ1 := Lib.hid hq1; have HQ2 := Lib.hid hq2; have HQ3 := Lib.hid hq3; have HQ4 := Lib.hid hq4
  clear hq1 hq2 hq3 hq4
  go_wp2_with (fail)
  refine (run_walk w1.heap.size pf bk w3.heap.size 3 c3 (progV aw13 3) (fun _ => 0) 0 [] none 9 _ hr3 hf3.flat (by simp) (by omega) (by have := hr3.row.lt; omega) (by omega) (by omega) R hR.symm).mono ?_
  rintro e w4 ⟨rfl, hr4, hf4, ht4⟩
  have k4 : Below w.heap.size w w4 := k3.trans (ht4.below k3.size (fun k hk => by
    have := k1.size
    have := k2.size
    rintro (h | h | h | h)
    · omega
    · omega
    · omega
    · cases h))
  rw [HQ1.out, HQ2.out]
  have q1 : w4.cell? ⟨w1.heap.size, 1, none⟩ = some (.int .u64 10) := by rw [hr4.row.cell 1 (by omega), HQ3.out]
  have q8 : w4.cell? ⟨w1.heap.size, 8, none⟩ = some (.int .u64 2) := by rw [hr4.row.cell 8 (by omega), HQ4.out]
  go_wp2_with (fail)
  go_ret
  exact ⟨rfl, k4⟩

end Go.Proofs.Ytfjfdhojhikgdaa
