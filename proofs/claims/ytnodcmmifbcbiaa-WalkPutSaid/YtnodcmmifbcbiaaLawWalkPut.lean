/- WalkPut returns true, by a walk over its text. -/
import Derived.Test.YtnodcmmifbcbiaaLaw07
namespace Go.Proofs.Ytnodcmmifbcbiaa
set_option linter.unusedSimpArgs false
set_option linter.unusedVariables false
open Go.RowKit
set_option maxHeartbeats 4000000

theorem walkPut_walk (f p : Int) (v wr tb : Bool) (fr : Int) (raw : Bool) (x : Int) (g q : Int) (w : World) :
    Calls Try.prog 10 #[.agg #[.int .i64 f, .int .i64 p, .bool v, .bool wr, .bool tb, .int .i64 fr, .bool raw, .int .u64 x], .int .i64 g, .int .i64 q] w fun e w' => e = .returned (.bool true) ∧ Below w.heap.size w w' := by
  obtain ⟨W, hW⟩ : ∃ W, W = tabW Z0 4 := ⟨_, rfl⟩
  have hfine : Fine W := by rw [hW]; exact fine_tab fine_Z0 4
  obtain ⟨W', hW'⟩ : ∃ W', W' = putW W 4 f p v wr tb fr := ⟨_, rfl⟩
  have HW := Lib.hid hW
  have HW' := Lib.hid hW'
  clear hW hW'
  go_enter Try.func10, Try.ntmps10
  go_wp2_with (fail)
  refine (awake07 _).mono ?_
  rintro e w1 ⟨rfl, hb1⟩
  have k1 : Below w.heap.size w w1 := ((Below.refl _ _).alloc (Nat.le_refl _) _).trans (hb1.mono (by simp))
  have z1 : w.heap.size < w1.heap.size := by have := hb1.size; simp at this; omega
  have a0 : w1.cell? ⟨w.heap.size, 0, none⟩ = some (.int .i64 f) := keep hb1 (by simp) (by simp [go_sem])
  have a1 : w1.cell? ⟨w.heap.size, 1, none⟩ = some (.int .i64 p) := keep hb1 (by simp) (by simp [go_sem])
  have a2 : w1.cell? ⟨w.heap.size, 2, none⟩ = some (.bool v) := keep hb1 (by simp) (by simp [go_sem])
  have a3 : w1.cell? ⟨w.heap.size, 3, none⟩ = some (.bool wr) := keep hb1 (by simp) (by simp [go_sem])
  have a4 : w1.cell? ⟨w.heap.size, 4, none⟩ = some (.bool tb) := keep hb1 (by simp) (by simp [go_sem])
  have a5 : w1.cell? ⟨w.heap.size, 5, none⟩ = some (.int .i64 fr) := keep hb1 (by simp) (by simp [go_sem])
  go_wp2_with (fail)
  refine (new_yes _ _ (by omega) (by omega)).mono ?_
  rintro e w2 ⟨pm, bk, rfl, hm2', hpm, hbk, hb2⟩
  have hm2 : MemIn w2 pm bk 4 Z0 := hm2'
  clear hm2'
  have k2 := k1.trans (hb2.mono k1.size)
  have z2 : w.heap.size < w2.heap.size := by have := hb2.size; omega
  have a0 := keep hb2 z1 a0
  have a1 := keep hb2 z1 a1
  have a2 := keep hb2 z1 a2
  have a3 := keep hb2 z1 a3
  have a4 := keep hb2 z1 a4
  have a5 := keep hb2 z1 a5
  go_wp2_with (fail)
  refine (tables_any pm bk _ _ _ hm2).mono ?_
  rintro e w3 ⟨rfl, hm3, ht3⟩
  rw [← HW.out] at hm3
  have hb3 : Below (w.heap.size + 1) w2 w3 := ht3.below (by omega) (fun k hk => by have := k1.size; omega)
  have k3 := k2.trans (hb3.mono (by omega))
  have z3 : w.heap.size < w3.heap.size := by have := hb3.size; omega
  have a0 := keep hb3 (by omega) a0
  have a1 := keep hb3 (by omega) a1
  have a2 := keep hb3 (by omega) a2
  have a3 := keep hb3 (by omega) a3
  have a4 := keep hb3 (by omega) a4
  have a5 := keep hb3 (by omega) a5
  go_wp2_with (fail)
  refine (get_any pm bk _ _ _ _ _ hm3).mono ?_
  rintro e w4 ⟨rfl, hb4⟩
  have hm4 := hm3.below hb4
  have k4 := k3.trans (hb4.mono k3.size)
  have z4 : w.heap.size < w4.heap.size := by have := hb4.size; omega
  have a0 := keep hb4 z3 a0
  have a1 := keep hb4 z3 a1
  have a2 := keep hb4 z3 a2
  have a3 := keep hb4 z3 a3
  have a4 := keep hb4 z3 a4
  have a5 := keep hb4 z3 a5
  -- BEHIND was
  have hm4a : ∀ o, MemIn (w4.alloc o) pm bk 4 W := fun o => hm4.below ((Below.refl _ _).alloc (Nat.le_refl _) _)
  have hbk4 : bk < w4.heap.size := hm4.bk_lt
  have ne1 : ¬ w.heap.size = bk := by have := k1.size; omega
  have ne2 : ¬ w4.heap.size = bk := by omega
  go_wp2_with (fail)
  refine (put_any pm bk _ _ _ _ _ _ _ _ _ (hm4a _)).mono ?_
  rintro e w5 ⟨rfl, hm5, ht5⟩
  rw [← HW'.out] at hm5
  have hs5 := ht5.size
  simp at hs5
  have k5 : Below w.heap.size w w5 := (k4.alloc k4.size _).trans (ht5.below (by simp; omega) (fun k hk => by have := k1.size; omega))
  have a0 : w5.cell? ⟨w.heap.size, 0, none⟩ = some (.int .i64 f) := keepT ht5 (by simp; omega) ne1 (by simp [go_sem, a0, z4])
  have a1 : w5.cell? ⟨w.heap.size, 1, none⟩ = some (.int .i64 p) := keepT ht5 (by simp; omega) ne1 (by simp [go_sem, a1, z4])
  have a2 : w5.cell? ⟨w.heap.size, 2, none⟩ = some (.bool v) := keepT ht5 (by simp; omega) ne1 (by simp [go_sem, a2, z4])
  have a3 : w5.cell? ⟨w.heap.size, 3, none⟩ = some (.bool wr) := keepT ht5 (by simp; omega) ne1 (by simp [go_sem, a3, z4])
  have a4 : w5.cell? ⟨w.heap.size, 4, none⟩ = some (.bool tb) := keepT ht5 (by simp; omega) ne1 (by simp [go_sem, a4, z4])
  have a5 : w5.cell? ⟨w.heap.size, 5, none⟩ = some (.int .i64 fr) := keepT ht5 (by simp; omega) ne1 (by simp [go_sem, a5, z4])
  have b0 : w5.cell? ⟨w4.heap.size, 0, none⟩ = some (.bool (gV W 4 g q)) := keepT ht5 (by simp) ne2 (by simp [go_sem])
  have b1 : w5.cell? ⟨w4.heap.size, 1, none⟩ = some (.bool (gW W 4 g q)) := keepT ht5 (by simp) ne2 (by simp [go_sem])
  have b2 : w5.cell? ⟨w4.heap.size, 2, none⟩ = some (.bool (gT W 4 g q)) := keepT ht5 (by simp) ne2 (by simp [go_sem])
  have b3 : w5.cell? ⟨w4.heap.size, 3, none⟩ = some (.int .i64 (gF W 4 g q)) := keepT ht5 (by simp) ne2 (by simp [go_sem])
  go_wp2_with (fail)
  refine (get_any pm bk _ _ _ _ _ hm5).mono ?_
  rintro e w6 ⟨rfl, hb6⟩
  have hs6 := hb6.size
  have hm6 := hm5.below hb6
  have k6 := k5.trans (hb6.mono k5.size)
  have a0 := keep hb6 (by omega) a0
  have a1 := keep hb6 (by omega) a1
  have a2 := keep hb6 (by omega) a2
  have a3 := keep hb6 (by omega) a3
  have a4 := keep hb6 (by omega) a4
  have a5 := keep hb6 (by omega) a5
  have b0 := keep hb6 (by omega) b0
  have b1 := keep hb6 (by omega) b1
  have b2 := keep hb6 (by omega) b2
  have b3 := keep hb6 (by omega) b3
  have hm6a : ∀ o, MemIn (w6.alloc o) pm bk 4 W' := fun o => hm6.below ((Below.refl _ _).alloc (Nat.le_refl _) _)
  go_wp2_with (fail)
  refine (get_any pm bk _ _ _ _ _ (hm6a _)).mono ?_
  rintro e w7 ⟨rfl, hb7⟩
  have hs7 := hb7.size
  simp at hs7
  have k7 : Below w.heap.size w w7 := (k6.alloc k6.size _).trans (hb7.mono (by have := k6.size; simp; omega))
  have a0 : w7.cell? ⟨w.heap.size, 0, none⟩ = some (.int .i64 f) := keep hb7 (by simp; omega) (by simp [go_sem, a0, show w.heap.size < w6.heap.size by omega])
  have a1 : w7.cell? ⟨w.heap.size, 1, none⟩ = some (.int .i64 p) := keep hb7 (by simp; omega) (by simp [go_sem, a1, show w.heap.size < w6.heap.size by omega])
  have a2 : w7.cell? ⟨w.heap.size, 2, none⟩ = some (.bool v) := keep hb7 (by simp; omega) (by simp [go_sem, a2, show w.heap.size < w6.heap.size by omega])
  have a3 : w7.cell? ⟨w.heap.size, 3, none⟩ = some (.bool wr) := keep hb7 (by simp; omega) (by simp [go_sem, a3, show w.heap.size < w6.heap.size by omega])
  have a4 : w7.cell? ⟨w.heap.size, 4, none⟩ = some (.bool tb) := keep hb7 (by simp; omega) (by simp [go_sem, a4, show w.heap.size < w6.heap.size by omega])
  have a5 : w7.cell? ⟨w.heap.size, 5, none⟩ = some (.int .i64 fr) := keep hb7 (by simp; omega) (by simp [go_sem, a5, show w.heap.size < w6.heap.size by omega])
  have b0 : w7.cell? ⟨w4.heap.size, 0, none⟩ = some (.bool (gV W 4 g q)) := keep hb7 (by simp; omega) (by simp [go_sem, b0, show w4.heap.size < w6.heap.size by omega])
  have b1 : w7.cell? ⟨w4.heap.size, 1, none⟩ = some (.bool (gW W 4 g q)) := keep hb7 (by simp; omega) (by simp [go_sem, b1, show w4.heap.size < w6.heap.size by omega])
  have b2 : w7.cell? ⟨w4.heap.size, 2, none⟩ = some (.bool (gT W 4 g q)) := keep hb7 (by simp; omega) (by simp [go_sem, b2, show w4.heap.size < w6.heap.size by omega])
  have b3 : w7.cell? ⟨w4.heap.size, 3, none⟩ = some (.int .i64 (gF W 4 g q)) := keep hb7 (by simp; omega) (by simp [go_sem, b3, show w4.heap.size < w6.heap.size by omega])
  have c0 : w7.cell? ⟨w6.heap.size, 0, none⟩ = some (.bool (gV W' 4 f p)) := keep hb7 (by simp) (by simp [go_sem])
  have c1 : w7.cell? ⟨w6.heap.size, 1, none⟩ = some (.bool (gW W' 4 f p)) := keep hb7 (by simp) (by simp [go_sem])
  have c2 : w7.cell? ⟨w6.heap.size, 2, none⟩ = some (.bool (gT W' 4 f p)) := keep hb7 (by simp) (by simp [go_sem])
  have c3 : w7.cell? ⟨w6.heap.size, 3, none⟩ = some (.int .i64 (gF W' 4 f p)) := keep hb7 (by simp) (by simp [go_sem])
  have l1 : w.heap.size < w7.heap.size := by omega
  have l2 : w4.heap.size < w7.heap.size := by omega
  have l3 : w6.heap.size < w7.heap.size := by omega
  by_cases hE : putE 4 f p v wr tb fr = 0
  · obtain ⟨hi, hr⟩ := (putE_zero _ _ _ _ _ _ _).1 hE
    obtain ⟨s0, s1, s2, s3, s4⟩ := get_put_same W 4 f p v wr tb fr hi hr
    rw [← HW'.out] at s0 s1 s2 s3 s4
    rw [hE, s0]
    rw [s1] at c0; rw [s2] at c1; rw [s3] at c2; rw [s4] at c3
    by_cases hsame : g = f ∧ q = p
    · obtain ⟨rfl, rfl⟩ := hsame
      have g0 := fine_gE hfine hi
      rw [g0, s1, s2, s3, s4, s0]
      clear hE s0 s1 s2 s3 s4 g0
      go_wp2_with (fail)
      all_goals (go_ret; exact ⟨by simp, k7.alloc k7.size _⟩)
    · obtain ⟨t0, t1, t2, t3, t4⟩ := get_put_other W 4 f p g q v wr tb fr hsame
      rw [← HW'.out] at t0 t1 t2 t3 t4
      rw [t0, t1, t2, t3, t4]
      clear hE s0 s1 s2 s3 s4 t0 t1 t2 t3 t4 hsame
      go_wp2_with (fail)
      all_goals (go_ret; exact ⟨by simp, k7.alloc k7.size _⟩)
  · have hWW : W' = W := by rw [HW'.out]; exact putW_mem W 4 f p v wr tb fr hE
    have hE' : (putE 4 f p v wr tb fr == 0) = false := by simpa using hE
    rw [hWW] at c0 c1 c2 c3 ⊢
    clear hE hWW
    go_wp2_with (fail)
    all_goals (go_ret; exact ⟨by simp, k7.alloc k7.size _⟩)

end Go.Proofs.Ytnodcmmifbcbiaa
