/- BuddyFrees: always true. -/
import Derived.Test.YtoiiblajgkdabaaLawB
import Derived.Test.YtoiiblajgkdabaaClass
namespace Go.Proofs.Ytoiiblajgkdabaa
set_option linter.unusedSimpArgs false
set_option linter.unusedVariables false
set_option maxRecDepth 100000
open Go.RowKit
set_option maxHeartbeats 4000000

theorem can_at {T : Nat → Prop} {L : List Blk} (h : CanB T L) (i : Nat) (hi : i < L.length) : ∃ a o : Nat, o ≤ 8 ∧ L[i] = (((a * 2 ^ o : Nat) : Int), (o : Int)) ∧ QCan T a o := (h.2 _).1 (List.getElem_mem hi)
theorem two_apart {T : Nat → Prop} {L : List Blk} (h : CanB T L) {i j a b o : Nat} (hij : j < i) (hi : i < L.length) (e : L[i] = (((a * 2 ^ o : Nat) : Int), (o : Int))) (e' : L[j] = (((b * 2 ^ o : Nat) : Int), (o : Int))) (ha : QCan T a o) (hb : QCan T b o) (ho : o < 8) : a / 2 ≠ b / 2 := by
  intro hab
  rcases half_two a b hab.symm with rfl | rfl
  · have h1 := List.pairwise_iff_getElem.1 h.1 j i (by omega) hi hij
    rw [e, e'] at h1
    omega
  · exact ha.2 ho (full_parent ha.1 hb.1)
theorem half_div (a P : Nat) (h : 1 ≤ P) : (a * P) / (2 * P) = a / 2 := by
  rw [Nat.mul_comm 2 P, ← Nat.div_div_eq_div_mul, Nat.mul_div_cancel _ (by omega)]

theorem frees (frames r : Int) (a : Option Addr) (len cap : Nat) (L : Nat → OpB) (w : World) (hA : OpsB w a len L) (hm : len ≤ 9223372036854775807) (hbd : ∀ i, i < len → I64 (L i).d ∧ I64 (L i).n ∧ I64 (L i).o ∧ U64 (L i).w) :
    Calls Try.prog 7 #[.int .i64 frames, .int .i64 r, .slice a len cap] w fun e w' => e = .returned (.bool true) ∧ Below w.heap.size w w' := by
  have HA := Lib.hid (awake04 w w (whole w) (Sat.start w))
  have HK := Lib.hid hA.kept
  have HBD := Lib.hid hbd
  clear hbd hA
  by_cases hf : ¬ (1 ≤ frames ∧ frames ≤ 256 ∧ 0 ≤ r ∧ r ≤ frames)
  · go_enter Try.func7, Try.ntmps7
    go_wp2_with (fail)
    refine HA.out.mono ?_
    rintro e w1 ⟨rfl, S0⟩
    go_wp2_with (fail)
    refine (begun_no frames r w1 hf).mono ?_
    rintro e w2 ⟨rfl, hb2⟩
    go_wp2_with (fail)
    go_ret
    exact ⟨rfl, Sat.ends ((S0.below hb2).emp.perm (star_comm _ _))⟩
  obtain ⟨n, rfl⟩ := Int.eq_ofNat_of_zero_le (show 0 ≤ frames by omega)
  obtain ⟨r, rfl⟩ := Int.eq_ofNat_of_zero_le (show 0 ≤ r by omega)
  have hn1 : 1 ≤ n := by omega
  have hn2 : n ≤ 256 := by omega
  have hrn : r ≤ n := by omega
  clear hf
  go_enter Try.func7, Try.ntmps7
  go_wp2_with (fail)
  refine HA.out.mono ?_
  rintro e w1 ⟨rfl, S0⟩
  go_wp2_with (fail)
  refine (begun_yes n r w w1 _ S0 hn1 hn2 hrn).mono ?_
  rintro e w2 ⟨pm, pb, rfl, S1⟩
  by_cases hlen : 60 < len
  · go_wp2_with (fail)
    go_ret
    exact ⟨rfl, Sat.ends (S1.right.right.emp.perm (star_comm _ _))⟩
  have B1 : Bst w pb pm r n (whole w) w2 := ⟨_, _, _, inv_new r n, S1⟩
  clear S1
  go_wp2_with (fail)
  go_loopw [10] (fun i wr => ∃ k : Nat, k ≤ len ∧ i = .int .i64 k ∧ Bst w pb pm r n (whole w) wr) (fun i _ => len - (intOf i).toNat)
  case atStart => exact ⟨0, by omega, rfl, B1⟩
  case round =>
    obtain ⟨k, hk, rfl, T, H, M, hi, S2⟩ := hrel
    clear B1
    by_cases hkl : k < len
    · have i1 : (k : Int) < len := by omega
      have HI := Lib.hid hi
      have hHl := inv_len hi hn2
      clear hi
      go_wp2_with (fail)
      refine (s_held pb pm T H w _ _ S2 (by omega)).mono ?_
      rintro e w3 ⟨HL, hperm, _, ⟨v, rfl, hown⟩, hb3⟩
      have hHL : HL.length ≤ 2304 := by rw [hperm.length_eq]; exact hHl
      have hcells := blk_cells hown
      obtain ⟨va, vc, rfl⟩ := own_slice hown
      have S3 := S2.below hb3
      clear hown hperm hHl S2
      rcases HK.out w3 (midP pb pm T H * memP pm n M) (S3.perm (by ac_rfl)) with h0 | ⟨ob, off, rfl, hops⟩
      · omega
      have hop := hops k hkl
      obtain ⟨bd, bn, bo, _⟩ := HBD.out k hkl
      clear hops
      generalize L k = x at hop bd bn bo
      obtain ⟨q0, q1, q2, _⟩ := hop
      have B3 : Bst w pb pm r n (whole w) w3 := ⟨T, H, M, HI.out, S3⟩
      clear S3
      go_upto_region 9 with (fail)
      go_cut [71] (fun s wx => s = .bool (decide (x.d = 2 ∧ 0 < HL.length ∧ 0 ≤ x.n)) ∧ wx = w3)
      case first =>
        by_cases h1 : x.d = 2
        · by_cases h2 : 0 < HL.length
          · by_cases h3 : 0 ≤ x.n
            · go_wp2_with (fail)
              go_meet
              exact ⟨by simp [h1, h2, h3], rfl⟩
            · go_wp2_with (fail)
              go_meet
              exact ⟨by simp [h1, h2, h3], rfl⟩
          · go_wp2_with (fail)
            go_meet
            exact ⟨by simp [h1, h2], rfl⟩
        · go_wp2_with (fail)
          go_meet
          exact ⟨by simp [h1], rfl⟩
      case rest =>
        obtain ⟨rfl, rfl⟩ := hcut
        go_upto_if 71 with (fail)
        go_cut [] (fun wx => Bst w pb pm r n (whole w) wx)
        case first =>
          by_cases hB : x.d = 2 ∧ 0 < HL.length ∧ 0 ≤ x.n
          · rw [decide_eq_true hB]
            rcases hcells with h0 | ⟨gb, cap', hgv, hgl, _, hc⟩
            · rw [h0] at hB; simp at hB
            simp only [Value.slice.injEq] at hgv
            obtain ⟨rfl, -, rfl⟩ := hgv
            obtain ⟨m, hxm⟩ := Int.eq_ofNat_of_zero_le hB.2.2
            have hmb : m ≤ 9223372036854775807 := by have := bn.2; omega
            rw [hxm] at q1
            obtain ⟨y, hy⟩ : ∃ y, m % HL.length = y := ⟨_, rfl⟩
            have hyl : y < HL.length := by rw [← hy]; exact Nat.mod_lt _ hB.2.1
            have hlz : ((HL.length : Int) == 0) = false := by rw [beq_eq_false_iff_ne]; omega
            have hrem : ((m : Int)).tmod (HL.length : Int) = (y : Int) := by rw [Int.tmod_eq_emod_of_nonneg (by omega), ← hy]; push_cast; rfl
            obtain ⟨c0, c1⟩ := hc y hyl
            generalize HL[y] = z at c0 c1
            clear hc hxm hB
            go_wp2_with (fail)
            refine (s_free_st pb pm r n z.1 z.2 w _ _ (B3.below (by repeat (first | with_reducible exact Below.refl _ _ | with_reducible assumption | with_reducible refine below_drewN ?_ _ | with_reducible refine Below.alloc ?_ (by simp <;> omega) _)))).mono ?_
            rintro e w4 ⟨⟨k', rfl⟩, B4⟩
            go_wp2_with (fail)
            go_meet
            exact B4
          · rw [decide_eq_false hB]
            go_wp2_with (fail)
            refine (s_alloc_st pb pm r n x.o w _ _ B3).mono ?_
            rintro e w4 ⟨⟨f, k', rfl⟩, B4⟩
            go_wp2_with (fail)
            go_meet
            exact B4
        case rest =>
          obtain ⟨T', H', M', hi', S4⟩ := hcut
          clear B3 HI hcells
          go_wp2_with (fail)
          refine (s_blocks pb pm T' H' w _ _ S4).mono ?_
          rintro e w5 ⟨BL, hcan, ⟨v', rfl, hown⟩, hb5⟩
          have hcells := blk_cells hown
          obtain ⟨va', vc', rfl⟩ := own_slice hown
          have B5 : Bst w pb pm r n (whole w) w5 := ⟨T', H', M', hi', S4.below hb5⟩
          have HC := Lib.hid hcan
          have hBl := canB_len hcan S4.small
          have HSM := Lib.hid S4.small
          clear hown hcan S4 hi'
          go_wp2_with (fail)
          go_loopw [14] (fun i wr => ∃ k : Nat, k ≤ BL.length ∧ i = .int .i64 k ∧ Below w5.heap.size w5 wr) (fun i _ => BL.length - (intOf i).toNat)
          case atStart => exact ⟨0, by omega, rfl, Below.refl _ _⟩
          case round =>
            obtain ⟨p, hp, rfl, hb6⟩ := hrel
            by_cases hpl : p < BL.length
            · have i2 : (p : Int) < BL.length := by omega
              go_wp2_with (fail)
              obtain ⟨wo, rfl⟩ : ∃ wo : World, wo = wr := ⟨_, rfl⟩
              go_loopw [15] (fun i wr => ∃ k : Nat, k ≤ p ∧ i = .int .i64 k ∧ Below w5.heap.size w5 wr) (fun i _ => p - (intOf i).toNat)
              case atStart => exact ⟨0, by omega, rfl, hb6⟩
              case round =>
                obtain ⟨q, hq, rfl, hb7⟩ := hrel
                by_cases hqp : q < p
                · have i3 : (q : Int) < BL.length := by omega
                  have i4 : q < BL.length := by omega
                  rcases hcells with h0 | ⟨gb, cap', hgv, hgl, _, hc⟩
                  · rw [h0] at hpl; simp at hpl
                  simp only [Value.slice.injEq] at hgv
                  obtain ⟨rfl, -, rfl⟩ := hgv
                  obtain ⟨u, o, ho8, e1, ca⟩ := can_at HC.out p hpl
                  obtain ⟨v, s, hs8, e2, cb⟩ := can_at HC.out q i4
                  have hne : s = o → o < 8 → u / 2 ≠ v / 2 := by
                    rintro rfl h8
                    exact two_apart HC.out hqp hpl e1 e2 ca cb h8
                  have hU := full_small HSM.out ca.1
                  have hV := full_small HSM.out cb.1
                  obtain ⟨c0, c1⟩ := hc p hpl
                  obtain ⟨d0, d1⟩ := hc q i4
                  rw [e1] at c0 c1
                  rw [e2] at d0 d1
                  obtain ⟨P, hP⟩ : ∃ P : Nat, 2 ^ o = P := ⟨_, rfl⟩
                  have hPz : (2 : Int) ^ o = (P : Int) := by rw [← hP]; push_cast; rfl
                  have hP1 : 1 ≤ P := by rw [← hP]; exact Nat.two_pow_pos o
                  have hP2 : P ≤ 256 := by rw [← hP]; exact Nat.pow_le_pow_right (n := 2) (by omega) ho8
                  obtain ⟨f, hf⟩ : ∃ f : Nat, u * 2 ^ o = f := ⟨_, rfl⟩
                  obtain ⟨f', hf'⟩ : ∃ f' : Nat, v * 2 ^ s = f' := ⟨_, rfl⟩
                  have hf2 : f ≤ 256 := by rw [Nat.add_mul] at hU; omega
                  have hf3 : f' ≤ 256 := by rw [Nat.add_mul] at hV; omega
                  obtain ⟨X, hX⟩ : ∃ X : Nat, f / (2 * P) = X := ⟨_, rfl⟩
                  obtain ⟨Y, hY⟩ : ∃ Y : Nat, f' / (2 * P) = Y := ⟨_, rfl⟩
                  have hX' : ((f : Int)).tdiv (2 * (P : Int)) = (X : Int) := by rw [Int.tdiv_eq_ediv_of_nonneg (by omega), ← hX]; push_cast; rfl
                  have hY' : ((f' : Int)).tdiv (2 * (P : Int)) = (Y : Int) := by rw [Int.tdiv_eq_ediv_of_nonneg (by omega), ← hY]; push_cast; rfl
                  have hX2 : X ≤ 256 := by rw [← hX]; exact Nat.le_trans (Nat.div_le_self _ _) hf2
                  have hY2 : Y ≤ 256 := by rw [← hY]; exact Nat.le_trans (Nat.div_le_self _ _) hf3
                  have hXY : s = o → o < 8 → X ≠ Y := by
                    intro hso h8
                    have := hne hso h8
                    rw [hso] at hf'
                    rw [← hX, ← hY, ← hf, ← hf', hP, half_div _ _ hP1, half_div _ _ hP1]
                    exact this
                  rw [hf] at c0
                  rw [hf'] at d0
                  have hz0 : (2 * (P : Int) == 0) = false := by rw [beq_eq_false_iff_ne]; omega
                  have hw1 : IntKind.i64.wrap (P : Int) = (P : Int) := IntWalk.i64_in _ ⟨by omega, by omega⟩
                  have hw2 : IntKind.i64.wrap (2 * (P : Int)) = 2 * (P : Int) := IntWalk.i64_in _ ⟨by omega, by omega⟩
                  replace c0 := keep hb7 hgl c0
                  replace c1 := keep hb7 hgl c1
                  replace d0 := keep hb7 hgl d0
                  replace d1 := keep hb7 hgl d1
                  have HXY := Lib.hid hXY
                  clear hc e1 e2 ca cb hne hU hV hP hf hf' hX hY hXY
                  go_wp2_with (fail)
                  have k1 : ∀ z : Wc (fun w' => wr.drew = w'), z.w.cell? ⟨gb, p * 2 + 1, none⟩ = some (.int .i64 o) := fun z => by rw [← z.h]; exact c1
                  have k2 : ∀ z : Wc (fun w' => wr.drew = w'), z.w.cell? ⟨gb, q * 2 + 1, none⟩ = some (.int .i64 s) := fun z => by rw [← z.h]; exact d1
                  clear hPz hX' hY' hz0 hw1 hw2 c0 c1 d0 d1
                  by_cases hso : s = o
                  · subst hso
                    by_cases h8 : s < 8
                    · have hxy := HXY.out rfl h8
                      have g1 : decide ((s : Int) < 8) = true := by simp; omega
                      have g2 : ((X : Int) == (Y : Int)) = false := by rw [beq_eq_false_iff_ne]; omega
                      have g3 : (X == Y) = false := by rw [beq_eq_false_iff_ne]; omega
                      clear HXY hxy
                      (refine region_class (fun w' => wr.drew = w') (by kernel_rfl) (by kernel_rfl) (rfl) ?_; intro _; (repeat (first | go_big_quiet_step ((fail)) | quiet_step ((fail)))); refine wpQuiet_nil ?_; intro wz hz)
                      clear g1 g2 g3
                      subst hz
                      clear k1 k2
                      go_wp2_with (fail)
                      go_roundw
                      case rel => exact ⟨q + 1, by omega, by go_num, by repeat (first | with_reducible exact Below.refl _ _ | with_reducible assumption | with_reducible refine below_drewN ?_ _ | with_reducible refine Below.drew ?_ | with_reducible refine Below.setCell ?_ (by first | omega | (simp <;> omega)) _ | with_reducible refine Below.alloc ?_ (by first | omega | (simp <;> omega)) _)⟩
                      case measure => simp [intOf]; omega
                    · have g1 : decide ((s : Int) < 8) = false := by simp; omega
                      clear HXY
                      (refine region_class (fun w' => wr.drew = w') (by kernel_rfl) (by kernel_rfl) (rfl) ?_; intro _; (repeat (first | go_big_quiet_step ((fail)) | quiet_step ((fail)))); refine wpQuiet_nil ?_; intro wz hz)
                      clear g1
                      subst hz
                      clear k1 k2
                      go_wp2_with (fail)
                      go_roundw
                      case rel => exact ⟨q + 1, by omega, by go_num, by repeat (first | with_reducible exact Below.refl _ _ | with_reducible assumption | with_reducible refine below_drewN ?_ _ | with_reducible refine Below.drew ?_ | with_reducible refine Below.setCell ?_ (by first | omega | (simp <;> omega)) _ | with_reducible refine Below.alloc ?_ (by first | omega | (simp <;> omega)) _)⟩
                      case measure => simp [intOf]; omega
                  · have g2 : ((s : Int) == (o : Int)) = false := by rw [beq_eq_false_iff_ne]; omega
                    have g3 : (s == o) = false := by rw [beq_eq_false_iff_ne]; omega
                    clear HXY
                    (refine region_class (fun w' => wr.drew = w') (by kernel_rfl) (by kernel_rfl) (rfl) ?_; intro _; (repeat (first | go_big_quiet_step ((fail)) | quiet_step ((fail)))); refine wpQuiet_nil ?_; intro wz hz)
                    clear g2 g3
                    subst hz
                    clear k1 k2
                    go_wp2_with (fail)
                    go_roundw
                    case rel => exact ⟨q + 1, by omega, by go_num, by repeat (first | with_reducible exact Below.refl _ _ | with_reducible assumption | with_reducible refine below_drewN ?_ _ | with_reducible refine Below.drew ?_ | with_reducible refine Below.setCell ?_ (by first | omega | (simp <;> omega)) _ | with_reducible refine Below.alloc ?_ (by first | omega | (simp <;> omega)) _)⟩
                    case measure => simp [intOf]; omega
                · obtain rfl : q = p := by omega
                  go_wp2_with (fail)
                  go_roundw
                  case rel => exact ⟨q + 1, by omega, by go_num, hb7⟩
                  case measure => simp [intOf]; omega
            · obtain rfl : p = BL.length := by omega
              go_wp2_with (fail)
              go_roundw
              case rel => exact ⟨k + 1, by omega, by go_num, B5.below hb6⟩
              case measure => simp [intOf]; omega
    · obtain rfl : k = len := by omega
      go_wp2_with (fail)
      go_ret
      exact ⟨rfl, Sat.ends (S2.right.right.emp.perm (star_comm _ _))⟩

end Go.Proofs.Ytoiiblajgkdabaa
