/- CpuHangs returns true, by a walk over its text. -/
import Derived.Test.YtfjfdhojhikgdaaLawCpuSteps
import Derived.Test.YtfjfdhojhikgdaaHang13
namespace Go.Proofs.Ytfjfdhojhikgdaa
set_option linter.unusedSimpArgs false
set_option linter.unusedVariables false
open Go.RowKit
set_option maxHeartbeats 8000000

def metL (L : List Int) (i : Int) : Bool := L.any fun x => x == i
theorem metL_take (L : List Int) (i : Int) (k : Nat) (h : k < L.length) : metL (L.take (k + 1)) i = (metL (L.take k) i || (L[k] == i)) := by
  unfold metL
  rw [List.take_succ_eq_append_getElem h, List.any_append]
  simp only [List.any_cons, List.any_nil, Bool.or_false]
def flipX (x : Int) : Int := bits .xor .u64 x 18446744073709551615
def flipW (V : Nat → Int) (L : List Int) (k : Nat) : Nat → Int := fun j => if j < k ∧ metL L j = false then flipX (V j) else V j
theorem flipW_rng {V : Nat → Int} (hV : ∀ i, 0 ≤ V i ∧ V i < 18446744073709551616) (L : List Int) (k i : Nat) : 0 ≤ flipW V L k i ∧ flipW V L k i < 18446744073709551616 := by
  unfold flipW flipX; split
  · exact bits_bd _ _ _
  · exact hV i
theorem flipW_succ (V : Nat → Int) (L : List Int) (k : Nat) : flipW V L (k + 1) = if metL L k = false then setF (flipW V L k) k (flipX (V k)) else flipW V L k := by
  funext j
  by_cases hm : metL L k = false
  · rw [if_pos hm]
    unfold flipW setF
    by_cases e : j = k
    · subst e; simp [hm]
    · have : (j < k + 1) = (j < k) := by simp; omega
      simp [e, this]
  · rw [if_neg hm]
    unfold flipW
    by_cases e : j = k
    · subst e; simp [hm]
    · have : (j < k + 1) = (j < k) := by simp; omega
      simp [this]
theorem flip_agree (n : Nat) (V : Nat → Int) (L : List Int) (k : Nat) : AgreeL n L V (flipW V L k) := by
  intro a ha h0 h1
  have : metL L a = true := List.any_eq_true.2 ⟨a, ha, by simp⟩
  have e : ((a.toNat : Nat) : Int) = a := by omega
  simp [flipW, e, this]

theorem cpuHangs_long (r : Nat → Int) (a : Option Addr) (n cap : Nat) (most : Int) (w : World) (hlen : 100 < n ∨ (n ≤ 100 ∧ (most < 0 ∨ (0 ≤ most ∧ 200 < most)))) (hm : n ≤ 9223372036854775807) :
    Calls Try.prog 6 #[.agg #[.int .u64 (r 0), .int .u64 (r 1), .int .u64 (r 2), .int .u64 (r 3), .int .u64 (r 4), .int .u64 (r 5), .int .u64 (r 6), .int .u64 (r 7), .int .u64 (r 8)], .slice a n cap, .int .i64 most] w fun e w' => e = .returned (.bool true) ∧ Below w.heap.size w w' := by
  rcases hlen with h | ⟨h, h0 | ⟨h0, h1⟩⟩
  all_goals
    go_enter Try.func6, Try.ntmps6
    go_wp2_with (fail)
    refine (awake13 _).mono ?_
    rintro e w1 ⟨rfl, hb1⟩
    go_wp2_with (fail)
    go_ret
    exact ⟨rfl, Below.trans ((Below.refl _ _).alloc (Nat.le_refl _) _) (hb1.mono (by simp))⟩

set_option maxRecDepth 100000 in
theorem cpuHangs_walk (r V : Nat → Int) (a : Option Addr) (n cap : Nat) (most : Int) (w : World) (hr : ∀ i, 0 ≤ r i ∧ r i < 18446744073709551616) (ha : WArg w a n V) (hnil : a = none → n = 0 ∧ cap = 0) (hV : ∀ i, 0 ≤ V i ∧ V i < 18446744073709551616) (hn : n ≤ 100) (h0 : 0 ≤ most) (h1 : most ≤ 200) :
    Calls Try.prog 6 #[.agg #[.int .u64 (r 0), .int .u64 (r 1), .int .u64 (r 2), .int .u64 (r 3), .int .u64 (r 4), .int .u64 (r 5), .int .u64 (r 6), .int .u64 (r 7), .int .u64 (r 8)], .slice a n cap, .int .i64 most] w fun e w' => e = .returned (.bool true) ∧ Below w.heap.size w w' := by
  go_enter Try.func6, Try.ntmps6
  go_wp2_with (fail)
  refine (awake13 _).mono ?_
  rintro e w1 ⟨rfl, hb1⟩
  have hrB := (regs_lay w r hr).below hb1
  have k1 : Below w.heap.size w w1 := Below.trans ((Below.refl _ _).alloc (Nat.le_refl _) _) (hb1.mono (by simp))
  have hB1 : w.heap.size < w1.heap.size := hrB.row.lt
  have c0 : w1.cell? ⟨w.heap.size, 0, none⟩ = some (.int .u64 (r 0)) := hrB.row.cell 0 (by omega)
  have c1 : w1.cell? ⟨w.heap.size, 1, none⟩ = some (.int .u64 (r 1)) := hrB.row.cell 1 (by omega)
  have c2 : w1.cell? ⟨w.heap.size, 2, none⟩ = some (.int .u64 (r 2)) := hrB.row.cell 2 (by omega)
  have c3 : w1.cell? ⟨w.heap.size, 3, none⟩ = some (.int .u64 (r 3)) := hrB.row.cell 3 (by omega)
  have c4 : w1.cell? ⟨w.heap.size, 4, none⟩ = some (.int .u64 (r 4)) := hrB.row.cell 4 (by omega)
  have c5 : w1.cell? ⟨w.heap.size, 5, none⟩ = some (.int .u64 (r 5)) := hrB.row.cell 5 (by omega)
  have c6 : w1.cell? ⟨w.heap.size, 6, none⟩ = some (.int .u64 (r 6)) := hrB.row.cell 6 (by omega)
  have c7 : w1.cell? ⟨w.heap.size, 7, none⟩ = some (.int .u64 (r 7)) := hrB.row.cell 7 (by omega)
  have c8 : w1.cell? ⟨w.heap.size, 8, none⟩ = some (.int .u64 (r 8)) := hrB.row.cell 8 (by omega)
  obtain ⟨w2, hw2⟩ : ∃ w2, w2 = w1.alloc (.cells #[.int .u64 (r 0), .int .u64 (r 1), .int .u64 (r 2), .int .u64 (r 3), .int .u64 (r 4), .int .u64 (r 5), .int .u64 (r 6), .int .u64 (r 7), .int .u64 (r 8)] 25) := ⟨_, rfl⟩
  have hb2 : Below w1.heap.size w1 w2 := by rw [hw2]; exact (Below.refl _ _).alloc (Nat.le_refl _) _
  have hr2 : RegsIn w2 w1.heap.size r := by rw [hw2]; exact regs_lay w1 r hr
  have hrB2 := hrB.below hb2
  have k2 := k1.trans (hb2.mono k1.size)
  have s2 : w2.heap.size = w1.heap.size + 1 := by rw [hw2]; simp
  have c0 : w2.cell? ⟨w.heap.size, 0, none⟩ = some (.int .u64 (r 0)) := hrB2.row.cell 0 (by omega)
  have c1 : w2.cell? ⟨w.heap.size, 1, none⟩ = some (.int .u64 (r 1)) := hrB2.row.cell 1 (by omega)
  have c2 : w2.cell? ⟨w.heap.size, 2, none⟩ = some (.int .u64 (r 2)) := hrB2.row.cell 2 (by omega)
  have c3 : w2.cell? ⟨w.heap.size, 3, none⟩ = some (.int .u64 (r 3)) := hrB2.row.cell 3 (by omega)
  have c4 : w2.cell? ⟨w.heap.size, 4, none⟩ = some (.int .u64 (r 4)) := hrB2.row.cell 4 (by omega)
  have c5 : w2.cell? ⟨w.heap.size, 5, none⟩ = some (.int .u64 (r 5)) := hrB2.row.cell 5 (by omega)
  have c6 : w2.cell? ⟨w.heap.size, 6, none⟩ = some (.int .u64 (r 6)) := hrB2.row.cell 6 (by omega)
  have c7 : w2.cell? ⟨w.heap.size, 7, none⟩ = some (.int .u64 (r 7)) := hrB2.row.cell 7 (by omega)
  have c8 : w2.cell? ⟨w.heap.size, 8, none⟩ = some (.int .u64 (r 8)) := hrB2.row.cell 8 (by omega)
  obtain ⟨w3, hw3⟩ : ∃ w3, w3 = w2.alloc (.cells #[.int .u64 (r 0), .int .u64 (r 1), .int .u64 (r 2), .int .u64 (r 3), .int .u64 (r 4), .int .u64 (r 5), .int .u64 (r 6), .int .u64 (r 7), .int .u64 (r 8)] 25) := ⟨_, rfl⟩
  have hb3 : Below w2.heap.size w2 w3 := by rw [hw3]; exact (Below.refl _ _).alloc (Nat.le_refl _) _
  have hp3 : RegsIn w3 w2.heap.size r := by rw [hw3]; exact regs_lay w2 r hr
  have hr3 := hr2.below hb3
  have k3 := k2.trans (hb3.mono k2.size)
  have s3 : w3.heap.size = w2.heap.size + 1 := by rw [hw3]; simp
  have ha3 := ha.below k3
  rw [s2] at hp3
  go_wp2_with (fail)
  rw [← hw2, ← hw3]
  clear hw2 hw3
  refine (of_any a n cap V 0 _ ha3 hnil hV (by omega)).mono ?_
  rintro e w4 ⟨pf, bk, c4, rfl, hf4, hpf, hbk, hb4⟩
  have k4 := k3.trans (hb4.mono k3.size)
  have hr4 := hr3.below hb4
  have hp4 := hp3.below hb4
  have ha4 := ha.below k4
  have s4 := hb4.size
  have l1 := hf4.pf_lt
  have l2 := hf4.words.lt
  have l3 := hf4.ne
  have kk1 := k1.size
  have h8 := eq8
  have hf4' := hf4.flat
  obtain ⟨R, hR⟩ : ∃ R, R = runM n 0 most.toNat r V := ⟨_, rfl⟩
  have HR := Lib.hid hR
  clear hR
  go_wp2_with (fail)
  refine (run_walk w1.heap.size pf bk w4.heap.size n c4 V r 0 [] none most _ hr4 hf4' (by simp) (by omega) (by omega) (by omega) (by omega) R HR.out.symm).mono ?_
  rintro e wa ⟨rfl, hra, ⟨la, hfa, hna⟩, hta⟩
  have nT : ∀ j, j ≠ w1.heap.size → j ≠ pf → j ≠ bk → ¬ TS w1.heap.size pf bk none j := by
    intro j h1 h2 h3
    rintro (h | h | h | h)
    · exact h1 h
    · exact h2 h
    · exact h3 h
    · cases h
  have sa := hta.size
  have hpa := hp4.touch hta (nT _ (by omega) (by omega) (by omega))
  have ka : Below w.heap.size w wa := k4.trans (hta.below k4.size (fun j hj => nT j (by omega) (by omega) (by omega)))
  have haa := ha.below ka
  rw [List.nil_append] at hfa
  obtain ⟨L, hL⟩ : ∃ L, L = R.lo := ⟨_, rfl⟩
  rw [← hL] at hfa
  have hLl : L.length ≤ 400 := by
    have h2 : ∀ (k : Nat) (r W : Nat → Int), (runM n 0 k r W).lo.length ≤ 2 * k := by
      intro k
      induction k with
      | zero => intro r W; simp [runM]
      | succ k ih =>
        intro r W
        have := ih (stepM n 0 r W).r (stepM n 0 r W).W
        have := stepM_lo n 0 r W
        simp only [runM]
        split
        · simp only; omega
        · simp only [List.length_append]; omega
    rw [hL, HR.out]
    have := h2 most.toNat r V
    omega
  have HL := Lib.hid hL
  clear hL
  go_wp2_with (fail)
  refine (of_any a n cap V 0 _ haa hnil hV (by omega)).mono ?_
  rintro e w5 ⟨pg, bg, c5, rfl, hg5, hpg, hbg, hb5⟩
  have k5 := ka.trans (hb5.mono ka.size)
  have hr5 := hra.below hb5
  have hp5 := hpa.below hb5
  have hf5 := hfa.below hb5
  have s5 := hb5.size
  have l4 := hg5.pf_lt
  have l5 := hg5.words.lt
  have l6 := hg5.ne
  have hflip0 : flipW V L 0 = V := by funext j; simp [flipW]
  rw [← hflip0] at hg5
  clear hflip0
  go_wp2_with (fail)
  go_loopw [15] (fun i wr => ∃ k : Nat, i = .int .i64 k ∧ k ≤ n ∧ RegsIn wr w1.heap.size R.r ∧ RegsIn wr (w1.heap.size + 1) r ∧ FlatIn wr pf bk w4.heap.size n c4 R.W 0 L la ∧ FlatNew wr pg bg n c5 (flipW V L k) 0 ∧ Touch (· = bg) w5 wr) (fun i _ => n - (intOf i).toNat)
  case atStart => exact ⟨0, rfl, by omega, hr5, hp5, hf5, hg5, Touch.refl _ _⟩
  case round =>
    obtain ⟨k, rfl, hk, hrr, hpr, hfr, hgr, htr⟩ := hrel
    rename World => wr
    have srr := htr.size
    have g0 := hgr.ptr
    obtain ⟨v, q2, hown, hlb⟩ := hfr.los
    obtain ⟨A0, c0, rfl⟩ : ∃ a c, v = .slice a L.length c := own_slice hown
    have hplt : pf < wr.heap.size := by omega
    have hglt := hgr.pf_lt
    by_cases hlt : k < n
    · have cw := hgr.words.cell k hlt
      have fw := hgr.words.free k hlt
      have bl := hgr.words.lt
      have kv0 : (0 : Int) ≤ k := by omega
      have kv1 : (k : Int) < n := by omega
      have hcur : flipW V L k k = V k := by simp [flipW]
      rw [hcur] at cw
      have hsucc := flipW_succ V L k
      have hVk := hV k
      obtain ⟨vk0, vk1⟩ := hVk
      generalize hVK : V k = VK at cw hsucc vk0 vk1
      have HS := Lib.hid hsucc
      clear hsucc hVK hcur
      go_wp2_with (fail)
      go_loop [16, 17] (fun mv jv => ∃ (j : Nat) (mb : Bool), j ≤ L.length ∧ jv = .int .i64 j ∧ mv = .bool mb ∧ Hid (mb = metL (L.take j) k)) (fun _ jv => L.length - (intOf jv).toNat)
      case atStart => exact ⟨0, false, by omega, rfl, rfl, Lib.hid rfl⟩
      case round =>
        obtain ⟨j, mb, hj, rfl, rfl, HM⟩ := hrel
        by_cases hjl : j < L.length
        · have hcell : ∃ g, A0 = some ⟨g, 0, none⟩ ∧ wr.cell? ⟨g, j, none⟩ = some (.int .i64 L[j]) := by
            rcases hown.2 with ⟨h1, h2⟩ | ⟨g, cap', cur, h1, _⟩
            · omega
            · cases h1
              refine ⟨g, rfl, ?_⟩
              rw [hown.cellAt j (by omega)]
              simp [hjl]
          obtain ⟨g, rfl, cj⟩ := hcell
          have hmt := metL_take L k j hjl
          rw [← HM.out] at hmt
          generalize L[j] = X at cj hmt
          have HMT := Lib.hid hmt
          clear hmt
          cases mb
          · go_wp2_with (fail)
            go_round
            case rel => exact ⟨j + 1, (X == (k : Int)), by omega, by go_num, rfl, by show _ = _; rw [HMT.out]; simp⟩
            case measure => simp [intOf]; omega
          · go_wp2_with (fail)
            go_round
            case rel => exact ⟨j + 1, true, by omega, by go_num, rfl, by show _ = _; rw [HMT.out]; simp⟩
            case measure => simp [intOf]; omega
        · have hmb : mb = metL L k := by rw [HM.out]; have : j = L.length := by omega
                                         rw [this, List.take_length]
          have HS2 := HS.out
          rw [← hmb] at HS2
          have HB := Lib.hid hmb
          clear hmb HM
          cases mb
          · have hW : flipW V L (k + 1) = setF (flipW V L k) k (flipX VK) := by rw [HS2]; simp
            have HW := Lib.hid hW
            clear hW HS2
            have hgn : FlatNew (wr.setCell ⟨bg, k, none⟩ (.int .u64 (flipX VK))) pg bg n c5 (flipW V L (k + 1)) 0 := by
              have ht : Touch (· = bg) wr (wr.setCell ⟨bg, k, none⟩ (.int .u64 (flipX VK))) := Touch.setCell (S := (· = bg)) (Touch.refl _ _) (Or.inl rfl) _
              rw [HW.out]
              exact ⟨keepT ht hgr.pf_lt hgr.ne hgr.ptr, keepT ht hgr.pf_lt hgr.ne hgr.fst, keepT ht hgr.pf_lt hgr.ne hgr.los, by rw [frozen_of_heap (ht.block pg hgr.pf_lt hgr.ne)]; exact hgr.free, hgr.words.set k hlt _ (by unfold flipX; exact bits_bd _ _ _), Nat.lt_of_lt_of_le hgr.pf_lt ht.size, hgr.ne, hgr.hn⟩
            have HG := Lib.hid hgn
            clear hgn
            go_wp2_with (fail)
            go_still_tail 14, (by kernel_rfl)
            change wpList _ _ _ _ _ wr.drew
            go_wp2_with (fail)
            go_roundw
            case rel =>
              have hts : Touch (· = bg) wr (wr.setCell ⟨bg, k, none⟩ (.int .u64 (flipX VK))).drew := (Touch.setCell (S := (· = bg)) (Touch.refl _ _) (Or.inl rfl) _).drew
              refine ⟨k + 1, by go_num, by omega, ?_, ?_, ?_, ?_, ?_⟩
              · exact hrr.touch hts (by omega)
              · exact hpr.touch hts (by omega)
              · exact hfr.touch hts (by omega) (by omega) (fun g hg => by have := (hfa.lb_ge g hg).2; omega)
              · exact HG.out.touch (S := fun _ => False) ((Touch.refl _ _).drew) id id
              · exact htr.trans hts
            case measure => simp [intOf]; omega
          · have hW : flipW V L (k + 1) = flipW V L k := by rw [HS2]; simp
            have HW := Lib.hid hW
            clear hW HS2
            go_wp2_with (fail)
            go_roundw
            case rel => exact ⟨k + 1, by go_num, by omega, hrr, hpr, hfr, by rw [HW.out]; exact hgr, htr⟩
            case measure => simp [intOf]; omega
    · have hkn : k = n := by omega
      obtain ⟨Q, hQ⟩ : ∃ Q, Q = runM n 0 most.toNat r (flipW V L n) := ⟨_, rfl⟩
      have hsame : R.done = Q.done ∧ R.call = Q.call ∧ R.e = Q.e ∧ R.r = Q.r ∧ R.lo = Q.lo := by
        rw [hQ, HR.out]
        exact runM_hang n 0 L most.toNat r V (flipW V L n) (flip_agree n V L n) (fun x hx => by rw [HL.out, HR.out]; exact hx)
      have HSM := Lib.hid hsame
      have HQ := Lib.hid hQ
      clear hsame hQ
      subst hkn
      have hkr : Below w.heap.size w wr := k5.trans (htr.below k5.size (fun j hj => by omega))
      have hgfl := hgr.flat
      have l7 := hgr.words.lt
      go_wp2_with (fail)
      refine (run_walk (w1.heap.size + 1) pg bg wr.heap.size k c5 (flipW V L k) r 0 [] none most _ hpr hgfl (by simp) (by omega) (by omega) (by omega) (by omega) Q HQ.out.symm).mono ?_
      rintro e wb ⟨rfl, hpb, ⟨lb, hgb, hnb⟩, htb⟩
      have nU : ∀ j, j ≠ w1.heap.size + 1 → j ≠ pg → j ≠ bg → ¬ TS (w1.heap.size + 1) pg bg none j := by
        intro j h1 h2 h3
        rintro (h | h | h | h)
        · exact h1 h
        · exact h2 h
        · exact h3 h
        · cases h
      have sb := htb.size
      have hrb := hrr.touch htb (nU _ (by omega) (by omega) (by omega))
      have kb : Below w.heap.size w wb := hkr.trans (htb.below hkr.size (fun j hj => nU j (by omega) (by omega) (by omega)))
      have q2b := keepT htb hplt (nU _ (by omega) (by omega) (by omega)) q2
      obtain ⟨v2, q3, hown2, _⟩ := hgb.los
      rw [List.nil_append] at hown2
      obtain ⟨A2, c2, rfl⟩ : ∃ a c, v2 = .slice a Q.lo.length c := own_slice hown2
      obtain ⟨z1, z2, z3, z4, z5⟩ := HSM.out
      have hll : Q.lo.length = L.length := by rw [HL.out, z5]
      rw [hll] at q3
      rw [← z4] at hpb
      rw [← z1, ← z2, ← z3]
      clear z1 z2 z3 z4 z5 hll hown2 hown hlb
      have hpbl := hpb.row.lt
      have hrbl := hrb.row.lt
      have e0 : wb.cell? ⟨w1.heap.size, 0, none⟩ = some (.int .u64 (R.r 0)) := hrb.row.cell 0 (by omega)
      have e1 : wb.cell? ⟨w1.heap.size, 1, none⟩ = some (.int .u64 (R.r 1)) := hrb.row.cell 1 (by omega)
      have e2 : wb.cell? ⟨w1.heap.size, 2, none⟩ = some (.int .u64 (R.r 2)) := hrb.row.cell 2 (by omega)
      have e3 : wb.cell? ⟨w1.heap.size, 3, none⟩ = some (.int .u64 (R.r 3)) := hrb.row.cell 3 (by omega)
      have e4 : wb.cell? ⟨w1.heap.size, 4, none⟩ = some (.int .u64 (R.r 4)) := hrb.row.cell 4 (by omega)
      have e5 : wb.cell? ⟨w1.heap.size, 5, none⟩ = some (.int .u64 (R.r 5)) := hrb.row.cell 5 (by omega)
      have e6 : wb.cell? ⟨w1.heap.size, 6, none⟩ = some (.int .u64 (R.r 6)) := hrb.row.cell 6 (by omega)
      have e7 : wb.cell? ⟨w1.heap.size, 7, none⟩ = some (.int .u64 (R.r 7)) := hrb.row.cell 7 (by omega)
      have e8 : wb.cell? ⟨w1.heap.size, 8, none⟩ = some (.int .u64 (R.r 8)) := hrb.row.cell 8 (by omega)
      have f0 : wb.cell? ⟨(w1.heap.size + 1), 0, none⟩ = some (.int .u64 (R.r 0)) := hpb.row.cell 0 (by omega)
      have f1 : wb.cell? ⟨(w1.heap.size + 1), 1, none⟩ = some (.int .u64 (R.r 1)) := hpb.row.cell 1 (by omega)
      have f2 : wb.cell? ⟨(w1.heap.size + 1), 2, none⟩ = some (.int .u64 (R.r 2)) := hpb.row.cell 2 (by omega)
      have f3 : wb.cell? ⟨(w1.heap.size + 1), 3, none⟩ = some (.int .u64 (R.r 3)) := hpb.row.cell 3 (by omega)
      have f4 : wb.cell? ⟨(w1.heap.size + 1), 4, none⟩ = some (.int .u64 (R.r 4)) := hpb.row.cell 4 (by omega)
      have f5 : wb.cell? ⟨(w1.heap.size + 1), 5, none⟩ = some (.int .u64 (R.r 5)) := hpb.row.cell 5 (by omega)
      have f6 : wb.cell? ⟨(w1.heap.size + 1), 6, none⟩ = some (.int .u64 (R.r 6)) := hpb.row.cell 6 (by omega)
      have f7 : wb.cell? ⟨(w1.heap.size + 1), 7, none⟩ = some (.int .u64 (R.r 7)) := hpb.row.cell 7 (by omega)
      have f8 : wb.cell? ⟨(w1.heap.size + 1), 8, none⟩ = some (.int .u64 (R.r 8)) := hpb.row.cell 8 (by omega)
      go_wp2_with (fail)
      go_quiet (fail)
      go_wp2_with (fail)
      go_ret
      exact ⟨rfl, below_drewN kb _⟩

end Go.Proofs.Ytfjfdhojhikgdaa
