/- CpuSteps returns true, by a walk over its text. -/
import Derived.Test.YtfjfdhojhikgdaaLawCpu2
namespace Go.Proofs.Ytfjfdhojhikgdaa
set_option linter.unusedSimpArgs false
set_option linter.unusedVariables false
open Go.RowKit
set_option maxHeartbeats 8000000

theorem cpuSteps_long (r : Nat → Int) (a : Option Addr) (n cap : Nat) (first : Int) (w : World) (hlen : 200 < n) (hm : n ≤ 9223372036854775807) :
    Calls Try.prog 3 #[.agg #[.int .u64 (r 0), .int .u64 (r 1), .int .u64 (r 2), .int .u64 (r 3), .int .u64 (r 4), .int .u64 (r 5), .int .u64 (r 6), .int .u64 (r 7), .int .u64 (r 8)], .slice a n cap, .int .i64 first] w fun e w' => e = .returned (.bool true) ∧ Below w.heap.size w w' := by
  go_enter Try.func3, Try.ntmps3
  go_wp2_with (fail)
  refine (awake13 _).mono ?_
  rintro e w1 ⟨rfl, hb1⟩
  go_wp2_with (fail)
  all_goals go_ret
  all_goals exact ⟨rfl, Below.trans ((Below.refl _ _).alloc (Nat.le_refl _) _) (hb1.mono (by simp))⟩

theorem below_undrew {B : Nat} {w w' : World} (h : Below B w.drew w') : Below B w w' := ⟨h.os, h.tape, h.output, h.size, h.block⟩

set_option maxRecDepth 100000 in
theorem cpuSteps_walk (r V : Nat → Int) (a : Option Addr) (n cap : Nat) (first : Int) (w : World) (hr : ∀ i, 0 ≤ r i ∧ r i < 18446744073709551616) (ha : WArg w a n V) (hnil : a = none → n = 0 ∧ cap = 0) (hV : ∀ i, 0 ≤ V i ∧ V i < 18446744073709551616) (hn : n ≤ 200) :
    Calls Try.prog 3 #[.agg #[.int .u64 (r 0), .int .u64 (r 1), .int .u64 (r 2), .int .u64 (r 3), .int .u64 (r 4), .int .u64 (r 5), .int .u64 (r 6), .int .u64 (r 7), .int .u64 (r 8)], .slice a n cap, .int .i64 first] w fun e w' => e = .returned (.bool true) ∧ Below w.heap.size w w' := by
  go_enter Try.func3, Try.ntmps3
  go_wp2_with (fail)
  refine (awake13 _).mono ?_
  rintro e w1 ⟨rfl, hb1⟩
  have hrB := (regs_lay w r hr).below hb1
  have k1 : Below w.heap.size w w1 := Below.trans ((Below.refl _ _).alloc (Nat.le_refl _) _) (hb1.mono (by simp))
  have hB1 : w.heap.size < w1.heap.size := hrB.row.lt
  have c0 : w1.cell? ⟨w.heap.size, 0, none⟩ = some (.int .u64 (r 0)) := hrB.row.cell 0 (by omega)
  have c1 : w1.cell? ⟨w.heap.size, 1, none⟩ = some (.int .u64 (r 1)) := hrB.row.cell 1 (by omega)
  have c2 : w1.cell? ⟨w.heap.size, 2, none⟩ = some (.int .u64 (r 2)) := hrB.row.cell 2 (by omega)
  have c3 : w1.cell? ⟨w.heap.size, 3, none⟩ = some (.int .u64 (r 3)) := hrB.row.cell 3 (by omega)
  have c4 : w1.cell? ⟨w.heap.size, 4, none⟩ = some (.int .u64 (r 4)) := hrB.row.cell 4 (by omega)
  have c5 : w1.cell? ⟨w.heap.size, 5, none⟩ = some (.int .u64 (r 5)) := hrB.row.cell 5 (by omega)
  have c6 : w1.cell? ⟨w.heap.size, 6, none⟩ = some (.int .u64 (r 6)) := hrB.row.cell 6 (by omega)
  have c7 : w1.cell? ⟨w.heap.size, 7, none⟩ = some (.int .u64 (r 7)) := hrB.row.cell 7 (by omega)
  have c8 : w1.cell? ⟨w.heap.size, 8, none⟩ = some (.int .u64 (r 8)) := hrB.row.cell 8 (by omega)
  obtain ⟨w2, hw2⟩ : ∃ w2, w2 = w1.alloc (.cells #[.int .u64 (r 0), .int .u64 (r 1), .int .u64 (r 2), .int .u64 (r 3), .int .u64 (r 4), .int .u64 (r 5), .int .u64 (r 6), .int .u64 (r 7), .int .u64 (r 8)] 25) := ⟨_, rfl⟩
  have hb2 : Below w1.heap.size w1 w2 := by rw [hw2]; exact (Below.refl _ _).alloc (Nat.le_refl _) _
  have hr2 : RegsIn w2 w1.heap.size r := by rw [hw2]; exact regs_lay w1 r hr
  have hrB2 := hrB.below hb2
  have k2 := k1.trans (hb2.mono k1.size)
  have s2 : w2.heap.size = w1.heap.size + 1 := by rw [hw2]; simp
  have c0 : w2.cell? ⟨w.heap.size, 0, none⟩ = some (.int .u64 (r 0)) := hrB2.row.cell 0 (by omega)
  have c1 : w2.cell? ⟨w.heap.size, 1, none⟩ = some (.int .u64 (r 1)) := hrB2.row.cell 1 (by omega)
  have c2 : w2.cell? ⟨w.heap.size, 2, none⟩ = some (.int .u64 (r 2)) := hrB2.row.cell 2 (by omega)
  have c3 : w2.cell? ⟨w.heap.size, 3, none⟩ = some (.int .u64 (r 3)) := hrB2.row.cell 3 (by omega)
  have c4 : w2.cell? ⟨w.heap.size, 4, none⟩ = some (.int .u64 (r 4)) := hrB2.row.cell 4 (by omega)
  have c5 : w2.cell? ⟨w.heap.size, 5, none⟩ = some (.int .u64 (r 5)) := hrB2.row.cell 5 (by omega)
  have c6 : w2.cell? ⟨w.heap.size, 6, none⟩ = some (.int .u64 (r 6)) := hrB2.row.cell 6 (by omega)
  have c7 : w2.cell? ⟨w.heap.size, 7, none⟩ = some (.int .u64 (r 7)) := hrB2.row.cell 7 (by omega)
  have c8 : w2.cell? ⟨w.heap.size, 8, none⟩ = some (.int .u64 (r 8)) := hrB2.row.cell 8 (by omega)
  obtain ⟨w3, hw3⟩ : ∃ w3, w3 = w2.alloc (.cells #[.int .u64 (r 0), .int .u64 (r 1), .int .u64 (r 2), .int .u64 (r 3), .int .u64 (r 4), .int .u64 (r 5), .int .u64 (r 6), .int .u64 (r 7), .int .u64 (r 8)] 25) := ⟨_, rfl⟩
  have hb3 : Below w2.heap.size w2 w3 := by rw [hw3]; exact (Below.refl _ _).alloc (Nat.le_refl _) _
  have hp3 : RegsIn w3 w2.heap.size r := by rw [hw3]; exact regs_lay w2 r hr
  have hr3 := hr2.below hb3
  have k3 := k2.trans (hb3.mono k2.size)
  have s3 : w3.heap.size = w2.heap.size + 1 := by rw [hw3]; simp
  have ha3 := ha.below k3
  rw [s2] at hp3
  go_wp2_with (fail)
  rw [← hw2, ← hw3]
  clear hw2 hw3
  refine (of_any a n cap V first _ ha3 hnil hV (by omega)).mono ?_
  rintro e w4 ⟨pf, bk, c4, rfl, hf4, hpf, hbk, hb4⟩
  have k4 := k3.trans (hb4.mono k3.size)
  have hr4 := hr3.below hb4
  have hp4 := hp3.below hb4
  have ha4 := ha.below k4
  have s4 := hb4.size
  have l1 := hf4.pf_lt
  have l2 := hf4.words.lt
  have l3 := hf4.ne
  go_wp2_with (at_builtin; refine wpList_copy_words rfl _ _ rfl _ a n cap V rfl rfl ha4 hnil hV (by omega) ?_; refine fun bg cg w5 hws hbg hb5 => Hold.out ?_)
  refine ⟨?_⟩
  have k5 := k4.trans (hb5.mono k4.size)
  have s5 := hb5.size
  have l4 := hws.lt
  obtain ⟨w6, hw6⟩ : ∃ w6, w6 = w5.alloc (.cells #[.slice (some ⟨bg, 0, none⟩) n cg, .int .i64 first] 32) := ⟨_, rfl⟩
  have hb6 : Below w5.heap.size w5 w6 := by rw [hw6]; exact (Below.refl _ _).alloc (Nat.le_refl _) _
  have hg6 : RflatIn w6 w5.heap.size bg n cg V first := by
    have e := hws.touch (S := fun _ => False) (Touch.of_below hb6) id
    rw [hw6] at e ⊢
    exact ⟨by simp [go_sem], by simp [go_sem], e, by simp, by omega, by omega⟩
  have k6 := k5.trans (hb6.mono k5.size)
  have s6 : w6.heap.size = w5.heap.size + 1 := by rw [hw6]; simp
  have hb46 := hb5.trans (hb6.mono hb5.size)
  have hr6 := hr4.below hb46
  have hp6 := hp4.below hb46
  have hf6 := (hf4.below hb46).flat
  have n1 : ¬ w1.heap.size = pf := by omega
  have n2 : ¬ w1.heap.size = bk := by omega
  have n3 : ¬ w1.heap.size + 1 = w5.heap.size := by omega
  have n4 : ¬ w1.heap.size + 1 = bg := by omega
  have n5 : ¬ w1.heap.size + 1 = w1.heap.size := by omega
  have n6 : ¬ w1.heap.size + 1 = pf := by omega
  have n7 : ¬ w1.heap.size + 1 = bk := by omega
  have n8 : ¬ w5.heap.size = w1.heap.size := by omega
  have n9 : ¬ w5.heap.size = pf := by omega
  have n10 : ¬ w5.heap.size = bk := by omega
  have n11 : ¬ bg = w1.heap.size := by omega
  have n12 : ¬ bg = pf := by omega
  have n13 : ¬ bg = bk := by omega
  have kk1 := k1.size
  go_wp2_with (fail)
  rw [← hw6]
  clear hw6
  have h8 := eq8
  go_loopw [12] (fun i wr => ∃ (k : Nat) (rc Wc : Nat → Int) (Lc : List Int) (lc : Option Nat), i = .int .i64 k ∧ k ≤ 60 ∧ Lc.length ≤ 2 * k ∧ RegsIn wr w1.heap.size rc ∧ RegsIn wr (w1.heap.size + 1) rc ∧ FlatIn wr pf bk w6.heap.size n c4 Wc first Lc lc ∧ RflatIn wr w5.heap.size bg n cg Wc first ∧ Below w.heap.size w wr) (fun i _ => 60 - (intOf i).toNat)
  case atStart => exact ⟨0, r, V, [], none, rfl, by omega, by simp, hr6, hp6, hf6, hg6, k6⟩
  case round =>
    obtain ⟨k, rc, Wc, Lc, lc, rfl, hk, hL, hrr, hpr, hfr, hgr, kr⟩ := hrel
    by_cases hlt : k < 60
    · obtain ⟨Q, hQ⟩ : ∃ Q, Q = stepM n first rc Wc := ⟨_, rfl⟩
      have hql : Q.lo.length ≤ 2 := by rw [hQ]; exact stepM_lo _ _ _ _
      have HQ := Lib.hid hQ
      clear hQ
      have hsr := kr.size
      have hwr := hfr.hb
      go_wp2_with (fail)
      refine (step_walk w1.heap.size pf bk w6.heap.size n c4 Wc rc first Lc lc _ hrr hfr (by omega) (by omega) n1 n2 Q HQ.out.symm).mono ?_
      rintro e wa ⟨rfl, hra, ⟨la, hfa, hna⟩, hta⟩
      have nT : ∀ j, j < w6.heap.size → j ≠ w1.heap.size → j ≠ pf → j ≠ bk → ¬ TS w1.heap.size pf bk lc j := by
        intro j hj h1 h2 h3
        rintro (h | h | h | h)
        · exact h1 h
        · exact h2 h
        · exact h3 h
        · have := (hfr.lb_ge _ h).1; omega
      have hpa := hpr.touch hta (nT _ (by omega) n5 n6 n7)
      have hga := hgr.touch hta (nT _ (by omega) n8 n9 n10) (nT _ (by omega) n11 n12 n13)
      have ka : Below w.heap.size w wa := kr.trans (hta.below kr.size (fun j hj => nT j (by omega) (by omega) (by omega) (by omega)))
      have sa := hta.size
      go_wp2_with (fail)
      refine (rstep_walk (w1.heap.size + 1) w5.heap.size bg n cg Wc rc first _ hpa hga n3 n4 Q HQ.out.symm).mono ?_
      rintro e wb ⟨rfl, hpb, hgb, htb⟩
      have nU : ∀ j, j ≠ w1.heap.size + 1 → j ≠ bg → ¬ (j = w1.heap.size + 1 ∨ j = bg) := by
        intro j h1 h2
        rintro (h | h)
        · exact h1 h
        · exact h2 h
      have hrb := hra.touch htb (nU _ (Ne.symm n5) (Ne.symm n11))
      have hfb := hfa.touch htb (nU _ (Ne.symm n6) (Ne.symm n12)) (nU _ (Ne.symm n7) (Ne.symm n13)) (fun g hg => nU _ (by have := (hfa.lb_ge g hg).1; omega) (by have := (hfa.lb_ge g hg).1; omega))
      have kb : Below w.heap.size w wb := ka.trans (htb.below ka.size (fun j hj => nU j (by omega) (by omega)))
      have sb := htb.size
      have q0 := hfb.ptr
      have q1 := hgb.ptr
      have hfbl := hfb.hb
      have hplt : pf < wb.heap.size := by omega
      have hglt : w5.heap.size < wb.heap.size := by omega
      go_wp2_with (fail)
      go_region_held3 (fun w' => w'.cell? ⟨pf, 0, none⟩ = some (.slice (some ⟨bk, 0, none⟩) n c4) ∧ w'.cell? ⟨w5.heap.size, 0, none⟩ = some (.slice (some ⟨bg, 0, none⟩) n cg)) (first | go_keep | exact ⟨by assumption, by assumption⟩)
        ((go_at_call 14
          refine (same_any _ _ n n c4 cg Q.W Q.W _ (by exact Or.inr ⟨bk, 0, rfl, hfb.words.lt, fun i hi => by rw [Nat.zero_add]; exact hfb.words.cell i hi⟩) (by exact Or.inr ⟨bg, 0, rfl, hgb.words.lt, fun i hi => by rw [Nat.zero_add]; exact hgb.words.cell i hi⟩) (by omega) (by omega) true (by simp)).mono ?_
          rintro e wc ⟨rfl, hbc0⟩
          have hbc : Below wb.heap.size wb wc := below_undrew hbc0
          have q0c := keep hbc hplt q0
          have q1c := keep hbc hglt q1))
      have hrc := hrb.below hbc
      have hpc := hpb.below hbc
      have hfc := hfb.below hbc
      have hgc := hgb.below hbc
      have kc := kb.trans (hbc.mono kb.size)
      have hlc : w1.heap.size < wc.heap.size := hrc.row.lt
      have e0 : wc.cell? ⟨w1.heap.size, 0, none⟩ = some (.int .u64 (Q.r 0)) := hrc.row.cell 0 (by omega)
      have e1 : wc.cell? ⟨w1.heap.size, 1, none⟩ = some (.int .u64 (Q.r 1)) := hrc.row.cell 1 (by omega)
      have e2 : wc.cell? ⟨w1.heap.size, 2, none⟩ = some (.int .u64 (Q.r 2)) := hrc.row.cell 2 (by omega)
      have e3 : wc.cell? ⟨w1.heap.size, 3, none⟩ = some (.int .u64 (Q.r 3)) := hrc.row.cell 3 (by omega)
      have e4 : wc.cell? ⟨w1.heap.size, 4, none⟩ = some (.int .u64 (Q.r 4)) := hrc.row.cell 4 (by omega)
      have e5 : wc.cell? ⟨w1.heap.size, 5, none⟩ = some (.int .u64 (Q.r 5)) := hrc.row.cell 5 (by omega)
      have e6 : wc.cell? ⟨w1.heap.size, 6, none⟩ = some (.int .u64 (Q.r 6)) := hrc.row.cell 6 (by omega)
      have e7 : wc.cell? ⟨w1.heap.size, 7, none⟩ = some (.int .u64 (Q.r 7)) := hrc.row.cell 7 (by omega)
      have e8 : wc.cell? ⟨w1.heap.size, 8, none⟩ = some (.int .u64 (Q.r 8)) := hrc.row.cell 8 (by omega)
      have f0 : wc.cell? ⟨(w1.heap.size + 1), 0, none⟩ = some (.int .u64 (Q.r 0)) := hpc.row.cell 0 (by omega)
      have f1 : wc.cell? ⟨(w1.heap.size + 1), 1, none⟩ = some (.int .u64 (Q.r 1)) := hpc.row.cell 1 (by omega)
      have f2 : wc.cell? ⟨(w1.heap.size + 1), 2, none⟩ = some (.int .u64 (Q.r 2)) := hpc.row.cell 2 (by omega)
      have f3 : wc.cell? ⟨(w1.heap.size + 1), 3, none⟩ = some (.int .u64 (Q.r 3)) := hpc.row.cell 3 (by omega)
      have f4 : wc.cell? ⟨(w1.heap.size + 1), 4, none⟩ = some (.int .u64 (Q.r 4)) := hpc.row.cell 4 (by omega)
      have f5 : wc.cell? ⟨(w1.heap.size + 1), 5, none⟩ = some (.int .u64 (Q.r 5)) := hpc.row.cell 5 (by omega)
      have f6 : wc.cell? ⟨(w1.heap.size + 1), 6, none⟩ = some (.int .u64 (Q.r 6)) := hpc.row.cell 6 (by omega)
      have f7 : wc.cell? ⟨(w1.heap.size + 1), 7, none⟩ = some (.int .u64 (Q.r 7)) := hpc.row.cell 7 (by omega)
      have f8 : wc.cell? ⟨(w1.heap.size + 1), 8, none⟩ = some (.int .u64 (Q.r 8)) := hpc.row.cell 8 (by omega)
      by_cases hc : Q.e ≠ 0 ∧ Q.e ≠ 14
      · have t0 : (Q.e != 0) = true := by simp [hc.1]
        have t1 : (Q.e != 14) = true := by simp [hc.2]
        clear hc
        go_wp2_with (fail)
        go_ret
        exact ⟨rfl, kc⟩
      · have hc2 : Q.e = 0 ∨ (¬ Q.e = 0 ∧ Q.e = 14) := by omega
        clear hc
        rcases hc2 with h0 | ⟨h0, h1⟩
        · have t0 : (Q.e != 0) = false := by simp [h0]
          clear h0
          go_wp2_with (fail)
          go_roundw
          case rel => exact ⟨k + 1, Q.r, Q.W, Lc ++ Q.lo, la, by go_num, by omega, by simp; omega, hrc, hpc, hfc, hgc, kc⟩
          case measure => simp [intOf]; omega
        · have t0 : (Q.e != 0) = true := by simp [h0]
          have t1 : (Q.e != 14) = false := by simp [h1]
          clear h0 h1
          go_wp2_with (fail)
          go_roundw
          case rel => exact ⟨k + 1, Q.r, Q.W, Lc ++ Q.lo, la, by go_num, by omega, by simp; omega, hrc, hpc, hfc, hgc, kc⟩
          case measure => simp [intOf]; omega
    · go_wp2_with (fail)
      go_ret
      exact ⟨rfl, kr⟩

end Go.Proofs.Ytfjfdhojhikgdaa
