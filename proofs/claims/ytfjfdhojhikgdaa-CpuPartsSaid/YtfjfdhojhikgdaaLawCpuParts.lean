/- CpuParts returns true, by a walk over its text. -/
import Derived.Test.YtfjfdhojhikgdaaLawCpuSteps
namespace Go.Proofs.Ytfjfdhojhikgdaa
set_option linter.unusedSimpArgs false
set_option linter.unusedVariables false
open Go.RowKit
set_option maxHeartbeats 8000000

theorem runM_done (n : Nat) (first : Int) : ∀ (k : Nat) (r W : Nat → Int), (runM n first k r W).done ≤ k
  | 0, r, W => by simp [runM]
  | k + 1, r, W => by
    have ih := runM_done n first k (stepM n first r W).r (stepM n first r W).W
    simp only [runM]
    split
    · simp
    · simp only; omega

/-- Run in two parts is run in one. -/
theorem runM_parts (n : Nat) (first : Int) (l : Nat) : ∀ (k : Nat) (r W : Nat → Int),
    ((runM n first k r W).e = 0 → (runM n first (k + l) r W).done = (runM n first k r W).done + (runM n first l (runM n first k r W).r (runM n first k r W).W).done ∧ (runM n first (k + l) r W).call = (runM n first l (runM n first k r W).r (runM n first k r W).W).call ∧
      (runM n first (k + l) r W).e = (runM n first l (runM n first k r W).r (runM n first k r W).W).e ∧ (runM n first (k + l) r W).r = (runM n first l (runM n first k r W).r (runM n first k r W).W).r ∧ (runM n first (k + l) r W).W = (runM n first l (runM n first k r W).r (runM n first k r W).W).W) ∧
    ((runM n first k r W).e ≠ 0 → (runM n first (k + l) r W).done = (runM n first k r W).done ∧ (runM n first (k + l) r W).call = (runM n first k r W).call ∧ (runM n first (k + l) r W).e = (runM n first k r W).e ∧ (runM n first (k + l) r W).r = (runM n first k r W).r ∧ (runM n first (k + l) r W).W = (runM n first k r W).W)
  | 0, r, W => by simp [runM]
  | k + 1, r, W => by
    have ih := runM_parts n first l k (stepM n first r W).r (stepM n first r W).W
    rw [show k + 1 + l = (k + l) + 1 by omega]
    simp only [runM]
    by_cases he : (stepM n first r W).e = 0
    · simp only [he, ne_eq, not_true, if_false]
      refine ⟨fun h => ?_, fun h => ?_⟩
      · obtain ⟨h1, h2, h3, h4, h5⟩ := ih.1 h
        exact ⟨by omega, h2, h3, h4, h5⟩
      · obtain ⟨h1, h2, h3, h4, h5⟩ := ih.2 h
        exact ⟨by omega, h2, h3, h4, h5⟩
    · simp [he]

theorem runM_lo (n : Nat) (first : Int) : ∀ (k : Nat) (r W : Nat → Int), (runM n first k r W).lo.length ≤ 2 * k
  | 0, r, W => by simp [runM]
  | k + 1, r, W => by
    have ih := runM_lo n first k (stepM n first r W).r (stepM n first r W).W
    have := stepM_lo n first r W
    simp only [runM]
    split
    · simp only; omega
    · simp only [List.length_append]; omega

theorem cpuParts_long (r : Nat → Int) (a : Option Addr) (n cap : Nat) (m0 m1 : Int) (w : World) (hlen : 200 < n ∨ (n ≤ 200 ∧ (m0 < 0 ∨ (0 ≤ m0 ∧ (m1 < 0 ∨ (0 ≤ m1 ∧ (1000 < m0 ∨ (m0 ≤ 1000 ∧ 1000 < m1)))))))) (hm : n ≤ 9223372036854775807) :
    Calls Try.prog 5 #[.agg #[.int .u64 (r 0), .int .u64 (r 1), .int .u64 (r 2), .int .u64 (r 3), .int .u64 (r 4), .int .u64 (r 5), .int .u64 (r 6), .int .u64 (r 7), .int .u64 (r 8)], .slice a n cap, .agg #[.int .i64 m0, .int .i64 m1]] w fun e w' => e = .returned (.bool true) ∧ Below w.heap.size w w' := by
  rcases hlen with h | ⟨h, h0 | ⟨h0, h1 | ⟨h1, h2 | ⟨h2, h3⟩⟩⟩⟩
  all_goals
    go_enter Try.func5, Try.ntmps5
    go_wp2_with (fail)
    refine (awake13 _).mono ?_
    rintro e w1 ⟨rfl, hb1⟩
    have k1 : Below w.heap.size w w1 := Below.trans (((Below.refl _ _).alloc (Nat.le_refl _) _).alloc (by simp) _) (hb1.mono (by simp <;> omega))
    have p0 : w1.cell? ⟨w.heap.size + 1, 0, none⟩ = some (.int .i64 m0) := keep hb1 (by simp) (by simp [go_sem])
    have p1 : w1.cell? ⟨w.heap.size + 1, 1, none⟩ = some (.int .i64 m1) := keep hb1 (by simp) (by simp [go_sem])
    go_wp2_with (fail)
    go_ret
    exact ⟨rfl, k1⟩

set_option maxRecDepth 100000 in
theorem cpuParts_walk (r V : Nat → Int) (a : Option Addr) (n cap : Nat) (m0 m1 : Int) (w : World) (hr : ∀ i, 0 ≤ r i ∧ r i < 18446744073709551616) (ha : WArg w a n V) (hnil : a = none → n = 0 ∧ cap = 0) (hV : ∀ i, 0 ≤ V i ∧ V i < 18446744073709551616) (hn : n ≤ 200) (h0 : 0 ≤ m0) (h1 : 0 ≤ m1) (h2 : m0 ≤ 1000) (h3 : m1 ≤ 1000) :
    Calls Try.prog 5 #[.agg #[.int .u64 (r 0), .int .u64 (r 1), .int .u64 (r 2), .int .u64 (r 3), .int .u64 (r 4), .int .u64 (r 5), .int .u64 (r 6), .int .u64 (r 7), .int .u64 (r 8)], .slice a n cap, .agg #[.int .i64 m0, .int .i64 m1]] w fun e w' => e = .returned (.bool true) ∧ Below w.heap.size w w' := by
  go_enter Try.func5, Try.ntmps5
  go_wp2_with (fail)
  refine (awake13 _).mono ?_
  rintro e w1 ⟨rfl, hb1⟩
  have hrB := ((regs_lay w r hr).below ((Below.refl _ _).alloc (Nat.le_refl _) (.cells #[.int .i64 m0, .int .i64 m1] 46))).below hb1
  have k1 : Below w.heap.size w w1 := Below.trans (((Below.refl _ _).alloc (Nat.le_refl _) _).alloc (by simp) _) (hb1.mono (by simp <;> omega))
  have hB1 : w.heap.size + 1 < w1.heap.size := by have := hb1.size; simp at this; omega
  have hB0 : w.heap.size < w1.heap.size := by omega
  have p0 : w1.cell? ⟨w.heap.size + 1, 0, none⟩ = some (.int .i64 m0) := keep hb1 (by simp) (by simp [go_sem])
  have p1 : w1.cell? ⟨w.heap.size + 1, 1, none⟩ = some (.int .i64 m1) := keep hb1 (by simp) (by simp [go_sem])
  have c0 : w1.cell? ⟨w.heap.size, 0, none⟩ = some (.int .u64 (r 0)) := hrB.row.cell 0 (by omega)
  have c1 : w1.cell? ⟨w.heap.size, 1, none⟩ = some (.int .u64 (r 1)) := hrB.row.cell 1 (by omega)
  have c2 : w1.cell? ⟨w.heap.size, 2, none⟩ = some (.int .u64 (r 2)) := hrB.row.cell 2 (by omega)
  have c3 : w1.cell? ⟨w.heap.size, 3, none⟩ = some (.int .u64 (r 3)) := hrB.row.cell 3 (by omega)
  have c4 : w1.cell? ⟨w.heap.size, 4, none⟩ = some (.int .u64 (r 4)) := hrB.row.cell 4 (by omega)
  have c5 : w1.cell? ⟨w.heap.size, 5, none⟩ = some (.int .u64 (r 5)) := hrB.row.cell 5 (by omega)
  have c6 : w1.cell? ⟨w.heap.size, 6, none⟩ = some (.int .u64 (r 6)) := hrB.row.cell 6 (by omega)
  have c7 : w1.cell? ⟨w.heap.size, 7, none⟩ = some (.int .u64 (r 7)) := hrB.row.cell 7 (by omega)
  have c8 : w1.cell? ⟨w.heap.size, 8, none⟩ = some (.int .u64 (r 8)) := hrB.row.cell 8 (by omega)
  obtain ⟨w2, hw2⟩ : ∃ w2, w2 = w1.alloc (.cells #[.int .u64 (r 0), .int .u64 (r 1), .int .u64 (r 2), .int .u64 (r 3), .int .u64 (r 4), .int .u64 (r 5), .int .u64 (r 6), .int .u64 (r 7), .int .u64 (r 8)] 25) := ⟨_, rfl⟩
  have hb2 : Below w1.heap.size w1 w2 := by rw [hw2]; exact (Below.refl _ _).alloc (Nat.le_refl _) _
  have hr2 : RegsIn w2 w1.heap.size r := by rw [hw2]; exact regs_lay w1 r hr
  have hrB2 := hrB.below hb2
  have p0 := keep hb2 hB1 p0
  have p1 := keep hb2 hB1 p1
  have k2 := k1.trans (hb2.mono k1.size)
  have s2 : w2.heap.size = w1.heap.size + 1 := by rw [hw2]; simp
  have c0 : w2.cell? ⟨w.heap.size, 0, none⟩ = some (.int .u64 (r 0)) := hrB2.row.cell 0 (by omega)
  have c1 : w2.cell? ⟨w.heap.size, 1, none⟩ = some (.int .u64 (r 1)) := hrB2.row.cell 1 (by omega)
  have c2 : w2.cell? ⟨w.heap.size, 2, none⟩ = some (.int .u64 (r 2)) := hrB2.row.cell 2 (by omega)
  have c3 : w2.cell? ⟨w.heap.size, 3, none⟩ = some (.int .u64 (r 3)) := hrB2.row.cell 3 (by omega)
  have c4 : w2.cell? ⟨w.heap.size, 4, none⟩ = some (.int .u64 (r 4)) := hrB2.row.cell 4 (by omega)
  have c5 : w2.cell? ⟨w.heap.size, 5, none⟩ = some (.int .u64 (r 5)) := hrB2.row.cell 5 (by omega)
  have c6 : w2.cell? ⟨w.heap.size, 6, none⟩ = some (.int .u64 (r 6)) := hrB2.row.cell 6 (by omega)
  have c7 : w2.cell? ⟨w.heap.size, 7, none⟩ = some (.int .u64 (r 7)) := hrB2.row.cell 7 (by omega)
  have c8 : w2.cell? ⟨w.heap.size, 8, none⟩ = some (.int .u64 (r 8)) := hrB2.row.cell 8 (by omega)
  obtain ⟨w3, hw3⟩ : ∃ w3, w3 = w2.alloc (.cells #[.int .u64 (r 0), .int .u64 (r 1), .int .u64 (r 2), .int .u64 (r 3), .int .u64 (r 4), .int .u64 (r 5), .int .u64 (r 6), .int .u64 (r 7), .int .u64 (r 8)] 25) := ⟨_, rfl⟩
  have hb3 : Below w2.heap.size w2 w3 := by rw [hw3]; exact (Below.refl _ _).alloc (Nat.le_refl _) _
  have hp3 : RegsIn w3 w2.heap.size r := by rw [hw3]; exact regs_lay w2 r hr
  have hr3 := hr2.below hb3
  have p0 := keep hb3 (by omega) p0
  have p1 := keep hb3 (by omega) p1
  have k3 := k2.trans (hb3.mono k2.size)
  have s3 : w3.heap.size = w2.heap.size + 1 := by rw [hw3]; simp
  have ha3 := ha.below k3
  rw [s2] at hp3
  go_wp2_with (fail)
  rw [← hw2, ← hw3]
  clear hw2 hw3
  refine (of_any a n cap V 0 _ ha3 hnil hV (by omega)).mono ?_
  rintro e w4 ⟨pf, bk, c4, rfl, hf4, hpf, hbk, hb4⟩
  have p0 := keep hb4 (by omega) p0
  have p1 := keep hb4 (by omega) p1
  have k4 := k3.trans (hb4.mono k3.size)
  have hr4 := hr3.below hb4
  have hp4 := hp3.below hb4
  have ha4 := ha.below k4
  have s4 := hb4.size
  have l1 := hf4.pf_lt
  have l2 := hf4.words.lt
  have l3 := hf4.ne
  go_wp2_with (fail)
  refine (of_any a n cap V 0 _ ha4 hnil hV (by omega)).mono ?_
  rintro e w5 ⟨pg, bg, c5, rfl, hg5, hpg, hbg, hb5⟩
  have p0 := keep hb5 (by omega) p0
  have p1 := keep hb5 (by omega) p1
  have k5 := k4.trans (hb5.mono k4.size)
  have hr5 := hr4.below hb5
  have hp5 := hp4.below hb5
  have hf5 := (hf4.below hb5).flat
  have s5 := hb5.size
  have l4 := hg5.pf_lt
  have l5 := hg5.words.lt
  have l6 := hg5.ne
  have kk1 := k1.size
  have h8 := eq8
  obtain ⟨R, hR⟩ : ∃ R, R = runM n 0 (m0 + m1).toNat r V := ⟨_, rfl⟩
  obtain ⟨S, hS⟩ : ∃ S, S = runM n 0 m0.toNat r V := ⟨_, rfl⟩
  obtain ⟨T, hT⟩ : ∃ T, T = runM n 0 m1.toNat S.r S.W := ⟨_, rfl⟩
  have hP := runM_parts n 0 m1.toNat m0.toNat r V
  rw [show m0.toNat + m1.toNat = (m0 + m1).toNat by omega, ← hR, ← hS, ← hT] at hP
  have hd1 : S.done ≤ 1000 := by rw [hS]; have := runM_done n 0 m0.toNat r V; omega
  have hd2 : T.done ≤ 1000 := by rw [hT]; have := runM_done n 0 m1.toNat S.r S.W; omega
  have HR := Lib.hid hR; have HS := Lib.hid hS; have HT := Lib.hid hT; have HP := Lib.hid hP
  clear hR hS hT hP
  go_wp2_with (fail)
  refine (run_walk w1.heap.size pf bk w5.heap.size n c4 V r 0 [] none (m0 + m1) _ hr5 hf5 (by simp) (by omega) (by omega) (by omega) (by omega) R HR.out.symm).mono ?_
  rintro e wa ⟨rfl, hra, ⟨la, hfa, hna⟩, hta⟩
  have nT : ∀ j, j ≠ w1.heap.size → j ≠ pf → j ≠ bk → ¬ TS w1.heap.size pf bk none j := by
    intro j h1 h2 h3
    rintro (h | h | h | h)
    · exact h1 h
    · exact h2 h
    · exact h3 h
    · cases h
  have sa := hta.size
  have hpa := hp5.touch hta (nT _ (by omega) (by omega) (by omega))
  have hga := (hg5.touch hta (nT _ (by omega) (by omega) (by omega)) (nT _ (by omega) (by omega) (by omega))).flat
  have ka : Below w.heap.size w wa := k5.trans (hta.below k5.size (fun j hj => nT j (by omega) (by omega) (by omega)))
  have p0 := keepT hta (by omega) (nT _ (by omega) (by omega) (by omega)) p0
  have p1 := keepT hta (by omega) (nT _ (by omega) (by omega) (by omega)) p1
  go_wp2_with (fail)
  refine (run_walk (w1.heap.size + 1) pg bg wa.heap.size n c5 V r 0 [] none m0 _ hpa hga (by simp) (by omega) (by omega) (by omega) (by omega) S HS.out.symm).mono ?_
  rintro e wb ⟨rfl, hpb, ⟨lb, hgb, hnb⟩, htb⟩
  have nU : ∀ j, j ≠ w1.heap.size + 1 → j ≠ pg → j ≠ bg → ¬ TS (w1.heap.size + 1) pg bg none j := by
    intro j h1 h2 h3
    rintro (h | h | h | h)
    · exact h1 h
    · exact h2 h
    · exact h3 h
    · cases h
  have sb := htb.size
  have hrb := hra.touch htb (nU _ (by omega) (by omega) (by omega))
  have hlge := hfa.lb_ge
  have hfb := hfa.touch htb (nU _ (by omega) (by omega) (by omega)) (nU _ (by omega) (by omega) (by omega)) (fun g hg => nU _ (by have := (hlge g hg).1; omega) (by have := (hlge g hg).1; omega) (by have := (hlge g hg).1; omega))
  have kb : Below w.heap.size w wb := ka.trans (htb.below ka.size (fun j hj => nU j (by omega) (by omega) (by omega)))
  have p1 := keepT htb (by omega) (nU _ (by omega) (by omega) (by omega)) p1
  by_cases he : S.e = 0
  · have he' : (S.e == 0) = true := by simp [he]
    obtain ⟨g1, g2, g3, g4, g5⟩ := HP.out.1 he
    have hlo : S.lo.length ≤ 100000 := by rw [HS.out]; have := runM_lo n 0 m0.toNat r V; omega
    have hq : (R.done : Int) = S.done + T.done := by omega
    have hq' : ((R.done : Int) == (S.done : Int) + (T.done : Int)) = true := by simp [hq]
    have HG : Hid (R.call = T.call ∧ R.e = T.e ∧ R.r = T.r ∧ R.W = T.W) := Lib.hid ⟨g2, g3, g4, g5⟩
    clear he g1 g2 g3 g4 g5 hq
    go_wp2_with (fail)
    refine (run_walk (w1.heap.size + 1) pg bg wa.heap.size n c5 S.W S.r 0 ([] ++ S.lo) lb m1 _ hpb hgb (by simp; omega) (by omega) (by omega) (by omega) (by omega) T HT.out.symm).mono ?_
    rintro e wd ⟨rfl, hpd, ⟨ld, hgd, hnd⟩, htd⟩
    have hbge := hgb.lb_ge
    have nX : ∀ j, j < wa.heap.size → j ≠ w1.heap.size + 1 → j ≠ pg → j ≠ bg → ¬ TS (w1.heap.size + 1) pg bg lb j := by
      intro j h0 h1 h2 h3
      rintro (h | h | h | h)
      · exact h1 h
      · exact h2 h
      · exact h3 h
      · have := (hbge j h).1; omega
    have sd := htd.size
    have hrd := hrb.touch htd (nX _ (by omega) (by omega) (by omega) (by omega))
    have hfd := hfb.touch htd (nX _ (by omega) (by omega) (by omega) (by omega)) (nX _ (by omega) (by omega) (by omega) (by omega)) (fun g hg => nX _ ((hlge g hg).2) (by have := (hlge g hg).1; omega) (by have := (hlge g hg).1; omega) (by have := (hlge g hg).1; omega))
    have kd : Below w.heap.size w wd := kb.trans (htd.below kb.size (fun j hj => nX j (by omega) (by omega) (by omega) (by omega)))
    obtain ⟨g2, g3, g4, g5⟩ := HG.out
    rw [g4] at hrd
    rw [g5] at hfd
    rw [g2, g3]
    clear g2 g3 g4 g5
    have q0 := hfd.ptr
    have q1 := hgd.ptr
    have hfbl := hfd.hb
    have hgbl := hgd.hb
    have hplt : pf < wd.heap.size := by omega
    have hglt : pg < wd.heap.size := by omega
    go_wp2_with (fail)
    go_region_held3 (fun w' => w'.cell? ⟨pf, 0, none⟩ = some (.slice (some ⟨bk, 0, none⟩) n c4) ∧ w'.cell? ⟨pg, 0, none⟩ = some (.slice (some ⟨bg, 0, none⟩) n c5)) (first | go_keep | exact ⟨by assumption, by assumption⟩)
      ((go_at_call 14
        refine (same_any _ _ n n c4 c5 T.W T.W _ (by exact Or.inr ⟨bk, 0, rfl, hfd.words.lt, fun i hi => by rw [Nat.zero_add]; exact hfd.words.cell i hi⟩) (by exact Or.inr ⟨bg, 0, rfl, hgd.words.lt, fun i hi => by rw [Nat.zero_add]; exact hgd.words.cell i hi⟩) (by omega) (by omega) true (by simp)).mono ?_
        rintro e wc ⟨rfl, hbc0⟩
        have hbc : Below wd.heap.size wd wc := below_undrew hbc0
        have q0c := keep hbc hplt q0
        have q1c := keep hbc hglt q1))
    have hrc := hrd.below hbc
    have hpc := hpd.below hbc
    have kc := kd.trans (hbc.mono kd.size)
    have hlc : w1.heap.size < wc.heap.size := hrc.row.lt
    have e0 : wc.cell? ⟨w1.heap.size, 0, none⟩ = some (.int .u64 (T.r 0)) := hrc.row.cell 0 (by omega)
    have e1 : wc.cell? ⟨w1.heap.size, 1, none⟩ = some (.int .u64 (T.r 1)) := hrc.row.cell 1 (by omega)
    have e2 : wc.cell? ⟨w1.heap.size, 2, none⟩ = some (.int .u64 (T.r 2)) := hrc.row.cell 2 (by omega)
    have e3 : wc.cell? ⟨w1.heap.size, 3, none⟩ = some (.int .u64 (T.r 3)) := hrc.row.cell 3 (by omega)
    have e4 : wc.cell? ⟨w1.heap.size, 4, none⟩ = some (.int .u64 (T.r 4)) := hrc.row.cell 4 (by omega)
    have e5 : wc.cell? ⟨w1.heap.size, 5, none⟩ = some (.int .u64 (T.r 5)) := hrc.row.cell 5 (by omega)
    have e6 : wc.cell? ⟨w1.heap.size, 6, none⟩ = some (.int .u64 (T.r 6)) := hrc.row.cell 6 (by omega)
    have e7 : wc.cell? ⟨w1.heap.size, 7, none⟩ = some (.int .u64 (T.r 7)) := hrc.row.cell 7 (by omega)
    have e8 : wc.cell? ⟨w1.heap.size, 8, none⟩ = some (.int .u64 (T.r 8)) := hrc.row.cell 8 (by omega)
    have f0 : wc.cell? ⟨(w1.heap.size + 1), 0, none⟩ = some (.int .u64 (T.r 0)) := hpc.row.cell 0 (by omega)
    have f1 : wc.cell? ⟨(w1.heap.size + 1), 1, none⟩ = some (.int .u64 (T.r 1)) := hpc.row.cell 1 (by omega)
    have f2 : wc.cell? ⟨(w1.heap.size + 1), 2, none⟩ = some (.int .u64 (T.r 2)) := hpc.row.cell 2 (by omega)
    have f3 : wc.cell? ⟨(w1.heap.size + 1), 3, none⟩ = some (.int .u64 (T.r 3)) := hpc.row.cell 3 (by omega)
    have f4 : wc.cell? ⟨(w1.heap.size + 1), 4, none⟩ = some (.int .u64 (T.r 4)) := hpc.row.cell 4 (by omega)
    have f5 : wc.cell? ⟨(w1.heap.size + 1), 5, none⟩ = some (.int .u64 (T.r 5)) := hpc.row.cell 5 (by omega)
    have f6 : wc.cell? ⟨(w1.heap.size + 1), 6, none⟩ = some (.int .u64 (T.r 6)) := hpc.row.cell 6 (by omega)
    have f7 : wc.cell? ⟨(w1.heap.size + 1), 7, none⟩ = some (.int .u64 (T.r 7)) := hpc.row.cell 7 (by omega)
    have f8 : wc.cell? ⟨(w1.heap.size + 1), 8, none⟩ = some (.int .u64 (T.r 8)) := hpc.row.cell 8 (by omega)
    go_wp2_with (fail)
    go_ret
    exact ⟨rfl, kc⟩
  · have he' : (S.e == 0) = false := by simp [he]
    obtain ⟨g1, g2, g3, g4, g5⟩ := HP.out.2 he
    rw [g4] at hrb
    rw [g5] at hfb
    rw [g1, g2, g3]
    clear g1 g2 g3 g4 g5 he
    obtain ⟨wd, hwd⟩ : ∃ wd, wd = wb := ⟨_, rfl⟩
    have sd : wa.heap.size ≤ wd.heap.size := by rw [hwd]; exact sb
    rw [← hwd] at hrb hpb hfb hgb kb ⊢
    clear hwd
    have hrd := hrb; have hpd := hpb; have hfd := hfb; have hgd := hgb; have kd := kb
    have q0 := hfd.ptr
    have q1 := hgd.ptr
    have hfbl := hfd.hb
    have hgbl := hgd.hb
    have hplt : pf < wd.heap.size := by omega
    have hglt : pg < wd.heap.size := by omega
    go_wp2_with (fail)
    go_region_held3 (fun w' => w'.cell? ⟨pf, 0, none⟩ = some (.slice (some ⟨bk, 0, none⟩) n c4) ∧ w'.cell? ⟨pg, 0, none⟩ = some (.slice (some ⟨bg, 0, none⟩) n c5)) (first | go_keep | exact ⟨by assumption, by assumption⟩)
      ((go_at_call 14
        refine (same_any _ _ n n c4 c5 S.W S.W _ (by exact Or.inr ⟨bk, 0, rfl, hfd.words.lt, fun i hi => by rw [Nat.zero_add]; exact hfd.words.cell i hi⟩) (by exact Or.inr ⟨bg, 0, rfl, hgd.words.lt, fun i hi => by rw [Nat.zero_add]; exact hgd.words.cell i hi⟩) (by omega) (by omega) true (by simp)).mono ?_
        rintro e wc ⟨rfl, hbc0⟩
        have hbc : Below wd.heap.size wd wc := below_undrew hbc0
        have q0c := keep hbc hplt q0
        have q1c := keep hbc hglt q1))
    have hrc := hrd.below hbc
    have hpc := hpd.below hbc
    have kc := kd.trans (hbc.mono kd.size)
    have hlc : w1.heap.size < wc.heap.size := hrc.row.lt
    have e0 : wc.cell? ⟨w1.heap.size, 0, none⟩ = some (.int .u64 (S.r 0)) := hrc.row.cell 0 (by omega)
    have e1 : wc.cell? ⟨w1.heap.size, 1, none⟩ = some (.int .u64 (S.r 1)) := hrc.row.cell 1 (by omega)
    have e2 : wc.cell? ⟨w1.heap.size, 2, none⟩ = some (.int .u64 (S.r 2)) := hrc.row.cell 2 (by omega)
    have e3 : wc.cell? ⟨w1.heap.size, 3, none⟩ = some (.int .u64 (S.r 3)) := hrc.row.cell 3 (by omega)
    have e4 : wc.cell? ⟨w1.heap.size, 4, none⟩ = some (.int .u64 (S.r 4)) := hrc.row.cell 4 (by omega)
    have e5 : wc.cell? ⟨w1.heap.size, 5, none⟩ = some (.int .u64 (S.r 5)) := hrc.row.cell 5 (by omega)
    have e6 : wc.cell? ⟨w1.heap.size, 6, none⟩ = some (.int .u64 (S.r 6)) := hrc.row.cell 6 (by omega)
    have e7 : wc.cell? ⟨w1.heap.size, 7, none⟩ = some (.int .u64 (S.r 7)) := hrc.row.cell 7 (by omega)
    have e8 : wc.cell? ⟨w1.heap.size, 8, none⟩ = some (.int .u64 (S.r 8)) := hrc.row.cell 8 (by omega)
    have f0 : wc.cell? ⟨(w1.heap.size + 1), 0, none⟩ = some (.int .u64 (S.r 0)) := hpc.row.cell 0 (by omega)
    have f1 : wc.cell? ⟨(w1.heap.size + 1), 1, none⟩ = some (.int .u64 (S.r 1)) := hpc.row.cell 1 (by omega)
    have f2 : wc.cell? ⟨(w1.heap.size + 1), 2, none⟩ = some (.int .u64 (S.r 2)) := hpc.row.cell 2 (by omega)
    have f3 : wc.cell? ⟨(w1.heap.size + 1), 3, none⟩ = some (.int .u64 (S.r 3)) := hpc.row.cell 3 (by omega)
    have f4 : wc.cell? ⟨(w1.heap.size + 1), 4, none⟩ = some (.int .u64 (S.r 4)) := hpc.row.cell 4 (by omega)
    have f5 : wc.cell? ⟨(w1.heap.size + 1), 5, none⟩ = some (.int .u64 (S.r 5)) := hpc.row.cell 5 (by omega)
    have f6 : wc.cell? ⟨(w1.heap.size + 1), 6, none⟩ = some (.int .u64 (S.r 6)) := hpc.row.cell 6 (by omega)
    have f7 : wc.cell? ⟨(w1.heap.size + 1), 7, none⟩ = some (.int .u64 (S.r 7)) := hpc.row.cell 7 (by omega)
    have f8 : wc.cell? ⟨(w1.heap.size + 1), 8, none⟩ = some (.int .u64 (S.r 8)) := hpc.row.cell 8 (by omega)
    go_wp2_with (fail)
    go_ret
    exact ⟨rfl, kc⟩

end Go.Proofs.Ytfjfdhojhikgdaa
