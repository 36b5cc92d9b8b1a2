/- BuddyMany: always true. -/
import Derived.Test.YtoiiblajgkdabaaBudMany
namespace Go.Proofs.Ytoiiblajgkdabaa
set_option linter.unusedSimpArgs false
set_option linter.unusedVariables false
set_option maxRecDepth 100000
open Go.RowKit
set_option maxHeartbeats 4000000

theorem many (frames order : Int) (w : World) :
    Calls Try.prog 3 #[.int .i64 frames, .int .i64 order] w fun e w' => e = .returned (.bool true) ∧ Below w.heap.size w w' := by
  have HA := Lib.hid (awake04 w w (whole w) (Sat.start w))
  by_cases hf : 1 ≤ frames ∧ frames ≤ 256
  · obtain ⟨n, rfl⟩ := Int.eq_ofNat_of_zero_le (show 0 ≤ frames by omega)
    have hn1 : 1 ≤ n := by omega
    have hn2 : n ≤ 256 := by omega
    by_cases ho : 0 ≤ order ∧ order ≤ 8
    · obtain ⟨o, rfl⟩ := Int.eq_ofNat_of_zero_le ho.1
      have ho8 : o ≤ 8 := by omega
      have hd0 : decide ((o : Int) < 0) = false := by simp
      have hd8 : decide (8 < o) = false := by simp; omega
      have hd8' : decide (8 < (o : Int)) = false := by simp; omega
      obtain ⟨Q, hQ⟩ : ∃ Q : Nat, 2 ^ o = Q := ⟨_, rfl⟩
      have hQz : (2 : Int) ^ o = (Q : Int) := by rw [← hQ]; push_cast; rfl
      have hQ1 : 1 ≤ Q := by rw [← hQ]; exact Nat.two_pow_pos o
      have hQ2 : Q ≤ 256 := by rw [← hQ]; exact Nat.pow_le_pow_right (n := 2) (by omega) ho8
      obtain ⟨D, hD⟩ : ∃ D : Nat, n / Q = D := ⟨_, rfl⟩
      have hDz : ((n : Int)).tdiv (Q : Int) = (D : Int) := by rw [Int.tdiv_eq_ediv_of_nonneg (by omega), ← hD]; push_cast; rfl
      have hDm : D * Q + n % Q = n := by rw [← hD, Nat.mul_comm]; exact Nat.div_add_mod n Q
      have hDn : D ≤ 256 := by rw [← hD]; exact Nat.le_trans (Nat.div_le_self _ _) hn2
      have hRz : ((n : Int)).tmod (Q : Int) = ((n % Q : Nat) : Int) := by rw [Int.tmod_eq_emod_of_nonneg (by omega)]; push_cast; rfl
      have hz0 : ((Q : Int) == 0) = false := by simp; omega
      have hwq : IntKind.i64.wrap (Q : Int) = (Q : Int) := IntWalk.i64_in _ ⟨by omega, by omega⟩
      have hstart : numF (rangeT 0 n) o = D := by rw [numF_start n o hn2, hQ, hD]
      have HQ := Lib.hid hQ
      have HDM := Lib.hid hDm
      have hcn : cnt (rangeT 0 n) 256 = n := (cnt_congr 256 (fun x _ => by unfold rangeT; omega)).trans (cnt_int 0 n 256 (by omega))
      have HCN0 : Hid (cnt (rangeT 0 n) 256 + 0 * Q = n) := Lib.hid (by rw [hcn]; omega)
      clear hcn
      have HST := Lib.hid hstart
      clear hQ hD hDm hstart
      go_enter Try.func3, Try.ntmps3
      go_wp2_with (fail)
      refine HA.out.mono ?_
      rintro e w1 ⟨rfl, S0⟩
      go_wp2_with (fail)
      refine (begun_yes n 0 w w1 _ S0 hn1 hn2 (by omega)).mono ?_
      rintro e w2 ⟨pm, pb, rfl, S1⟩
      have HF := Lib.hid (fun (w' : World) (T : Nat → Prop) (H : List Blk) (h' : Sat w w' (midP pb pm T H * (memP pm n (fun _ => 0) * whole w))) => s_frames pm n (fun _ => 0) w w' _ h'.swap)
      go_wp2_with (fail)
      go_loopw [9] (fun i wr => ∃ (k : Nat) (T : Nat → Prop) (H : List Blk), k ≤ D ∧ i = .int .i64 k ∧ Hid (numF T o + k = D) ∧ Hid (cnt T 256 + k * Q = n) ∧ Hid (InvB 0 n T H) ∧ Hid (H.length = k) ∧ Sat w wr (midP pb pm T H * (memP pm n (fun _ => 0) * whole w))) (fun i _ => D - (intOf i).toNat)
      case atStart => exact ⟨0, rangeT 0 n, [], by omega, rfl, Lib.hid HST.out, HCN0, Lib.hid (inv_new 0 n), Lib.hid rfl, S1⟩
      case round =>
        obtain ⟨k, T, H, hk, rfl, HNUM, HCNT, HINV, HLEN, S2⟩ := hrel
        go_wp2_with (fail)
        refine (HF.out _ _ _ S2).mono ?_
        rintro e w' ⟨rfl, rfl⟩
        by_cases hkD : k < D
        · go_wp2_with (fail)
          refine (s_alloc_at pb pm T H o 0 n w _ _ S2 ho8 HINV.out).mono ?_
          intro e w3 hp
          cases hp with
          | no he hn hs =>
            have := numF_none hn
            have := HNUM.out
            omega
          | yes c hc he hs =>
            have h1 := numF_minus S2.small hc
            have h2 := cnt_minus hc (full_small' S2.small hc)
            have h3 := inv_alloc HINV.out ho8 hc
            obtain ⟨f, hf⟩ : ∃ f : Nat, c * 2 ^ o = f := ⟨_, rfl⟩
            rw [hf] at he hs h3
            rw [HQ.out] at h2 hf
            have hfm : ((f : Int)).tmod (Q : Int) = 0 := by
              rw [← hf, Int.tmod_eq_emod_of_nonneg (by omega)]; push_cast; exact Int.mul_emod_left _ _
            have H1 := Lib.hid (show numF (minusQ T c o) o + (k + 1) = D by have := HNUM.out; omega)
            have H2 := Lib.hid (show cnt (minusQ T c o) 256 + (k + 1) * Q = n by have := HCNT.out; rw [Nat.add_mul]; omega)
            have H3 := Lib.hid h3
            have H4 := Lib.hid (show (H ++ [((f : Int), (o : Int))]).length = k + 1 by have := HLEN.out; simp [this])
            subst he
            clear h1 h2 h3 hf hc HNUM HCNT HINV HLEN S2
            go_wp2_with (fail)
            go_roundw
            case rel => exact ⟨k + 1, _, _, by omega, by go_num, H1, H2, H3, H4, hs⟩
            case measure => simp [intOf]; omega
        · obtain rfl : k = D := by omega
          go_wp2_with (fail)
          refine (s_alloc_at pb pm T H o 0 n w _ _ S2 ho8 HINV.out).mono ?_
          intro e w3 hp
          cases hp with
          | yes c hc he hs =>
            have h1 := numF_minus S2.small hc
            have := HNUM.out
            omega
          | no he hn hs =>
            subst he
            obtain ⟨M, hM⟩ : ∃ M : Nat, n % Q = M := ⟨_, rfl⟩
            rw [hM] at hRz
            have hleft : cnt T 256 = M := by have := HCNT.out; have := HDM.out; omega
            have HL := Lib.hid hleft
            have hH := HLEN.out
            have HM := Lib.hid hM
            clear hleft hM S2
            go_wp2_with (fail)
            refine (s_held pb pm T H w _ _ hs (by omega)).mono ?_
            rintro e w4 ⟨L, hperm, _, ⟨v, rfl, hown⟩, hb4⟩
            have hLk : L.length = k := hperm.length_eq.trans hH
            rw [hLk] at hown
            obtain ⟨a, c, rfl⟩ := own_slice hown
            have S4 := hs.below hb4
            clear hown hperm hLk hH hs
            go_wp2_with (fail)
            refine (HF.out _ _ _ S4).mono ?_
            rintro e w' ⟨rfl, rfl⟩
            go_wp2_with (fail)
            have hL := s_left' pb pm T H w _ _ S4
            rw [HL.out] at hL
            refine hL.mono ?_
            rintro e w' ⟨rfl, rfl⟩
            clear hL
            go_wp2_with (fail)
            refine (HF.out _ _ _ S4).mono ?_
            rintro e w' ⟨rfl, rfl⟩
            go_wp2_with (fail)
            go_ret
            exact ⟨rfl, Sat.ends (S4.right.right.emp.perm (star_comm _ _))⟩
    · have ho' : order < 0 ∨ (¬ order < 0 ∧ 8 < order) := by omega
      go_enter Try.func3, Try.ntmps3
      go_wp2_with (fail)
      refine HA.out.mono ?_
      rintro e w1 ⟨rfl, S0⟩
      go_wp2_with (fail)
      refine (begun_yes n 0 w w1 _ S0 hn1 hn2 (by omega)).mono ?_
      rintro e w2 ⟨pm, pb, rfl, S1⟩
      rcases ho' with h1 | ⟨h1, h2⟩
      all_goals
        go_wp2_with (fail)
        go_ret
        exact ⟨rfl, Sat.ends (S1.right.right.emp.perm (star_comm _ _))⟩
  · go_enter Try.func3, Try.ntmps3
    go_wp2_with (fail)
    refine HA.out.mono ?_
    rintro e w1 ⟨rfl, S0⟩
    go_wp2_with (fail)
    refine (begun_no frames 0 w1 (by omega)).mono ?_
    rintro e w2 ⟨rfl, hb2⟩
    go_wp2_with (fail)
    go_ret
    exact ⟨rfl, Sat.ends ((S0.below hb2).emp.perm (star_comm _ _))⟩

end Go.Proofs.Ytoiiblajgkdabaa
