/- BuddyBest: always true. -/
import Derived.Test.YtoiiblajgkdabaaLawB
import Derived.Test.YtoiiblajgkdabaaClass
namespace Go.Proofs.Ytoiiblajgkdabaa
set_option linter.unusedSimpArgs false
set_option linter.unusedVariables false
set_option maxRecDepth 100000
open Go.RowKit
set_option maxHeartbeats 4000000

/-- The order of the block at a place. -/
def ordAt (L : List Blk) (i : Nat) : Int := (L.getD i (0, 0)).2
theorem ordAt_get (L : List Blk) (i : Nat) (h : i < L.length) : ordAt L i = L[i].2 := by unfold ordAt; simp [h]
def BestInv (L : List Blk) (o : Int) (k : Nat) (b : Int) : Prop := (b = -1 ∧ ∀ i, i < k → ordAt L i < o) ∨ ∃ j : Nat, b = j ∧ j < k ∧ o ≤ ordAt L j ∧ (∀ i, i < k → o ≤ ordAt L i → ordAt L j ≤ ordAt L i) ∧ ∀ i, i < j → o ≤ ordAt L i → ordAt L j < ordAt L i
theorem best_skip {L : List Blk} {o : Int} {k : Nat} {b : Int} (h : BestInv L o k b) (hk : ordAt L k < o) : BestInv L o (k + 1) b := by
  rcases h with ⟨h1, h2⟩ | ⟨j, h1, h2, h3, h4, h5⟩
  · refine Or.inl ⟨h1, fun i hi => ?_⟩
    rcases Nat.lt_succ_iff_lt_or_eq.1 hi with h | rfl
    · exact h2 i h
    · exact hk
  · refine Or.inr ⟨j, h1, by omega, h3, fun i hi ho => ?_, h5⟩
    rcases Nat.lt_succ_iff_lt_or_eq.1 hi with h | rfl
    · exact h4 i h ho
    · omega
theorem best_first {L : List Blk} {o : Int} {k : Nat} (h : ∀ i, i < k → ordAt L i < o) (hk : o ≤ ordAt L k) : BestInv L o (k + 1) k := by
  refine Or.inr ⟨k, rfl, by omega, hk, fun i hi ho => ?_, fun i hi ho => ?_⟩
  · rcases Nat.lt_succ_iff_lt_or_eq.1 hi with h' | rfl
    · have := h i h'; omega
    · omega
  · have := h i hi; omega
theorem best_less {L : List Blk} {o : Int} {k j : Nat} (h2 : j < k) (h4 : ∀ i, i < k → o ≤ ordAt L i → ordAt L j ≤ ordAt L i) (hk : o ≤ ordAt L k) (hl : ordAt L k < ordAt L j) : BestInv L o (k + 1) k := by
  refine Or.inr ⟨k, rfl, by omega, hk, fun i hi ho => ?_, fun i hi ho => ?_⟩
  · rcases Nat.lt_succ_iff_lt_or_eq.1 hi with h' | rfl
    · have := h4 i h' ho; omega
    · omega
  · have := h4 i hi ho; omega
theorem best_not {L : List Blk} {o : Int} {k j : Nat} (h2 : j < k) (h3 : o ≤ ordAt L j) (h4 : ∀ i, i < k → o ≤ ordAt L i → ordAt L j ≤ ordAt L i) (h5 : ∀ i, i < j → o ≤ ordAt L i → ordAt L j < ordAt L i) (hl : ¬ ordAt L k < ordAt L j) : BestInv L o (k + 1) j := by
  refine Or.inr ⟨j, rfl, by omega, h3, fun i hi ho => ?_, h5⟩
  rcases Nat.lt_succ_iff_lt_or_eq.1 hi with h' | rfl
  · exact h4 i h' ho
  · omega
/-- Where none is, there is no room. -/
theorem best_none {T : Nat → Prop} {L : List Blk} {order : Nat} {b : Int} (h : BestInv L order L.length b) (hc : CanB T L) (hn : ∀ k, order ≤ k → k ≤ 8 → ∀ a, ¬ QCan T a k) : b = -1 := by
  rcases h with ⟨h1, _⟩ | ⟨j, h1, h2, h3, _, _⟩
  · exact h1
  · obtain ⟨a, o, ho, e, hq⟩ := (hc.2 _).1 (List.getElem_mem h2)
    rw [ordAt_get L j h2, e] at h3
    exact absurd hq (hn o (by simpa using h3) ho a)
/-- The block that Alloc gives is the one that was looked for. -/
theorem best_some {T : Nat → Prop} {L : List Blk} {order a k : Nat} {b : Int} (h : BestInv L order L.length b) (hc : CanB T L) (hk : order ≤ k) (hk8 : k ≤ 8) (hq : QCan T a k) (hl : ∀ j, order ≤ j → j < k → ∀ b, ¬ QCan T b j) (hf : ∀ b, QCan T b k → a ≤ b) :
    ∃ (j : Nat) (hj : j < L.length), b = j ∧ L[j].1 = ((a * 2 ^ k : Nat) : Int) := by
  obtain ⟨m, hm, em⟩ := List.mem_iff_getElem.1 ((hc.2 (((a * 2 ^ k : Nat) : Int), (k : Int))).2 ⟨a, k, hk8, rfl, hq⟩)
  have om : ordAt L m = (k : Int) := by rw [ordAt_get L m hm, em]
  rcases h with ⟨h1, h2⟩ | ⟨j, h1, h2, h3, h4, h5⟩
  · have := h2 m hm
    omega
  · refine ⟨j, h2, h1, ?_⟩
    obtain ⟨a', o', ho', e, hq'⟩ := (hc.2 _).1 (List.getElem_mem h2)
    have oj : ordAt L j = (o' : Int) := by rw [ordAt_get L j h2, e]
    have h6 := h4 m hm (by omega)
    have h7 : k ≤ o' := by
      rcases Nat.lt_or_ge o' k with h | h
      · exact absurd hq' (hl o' (by omega) h a')
      · exact h
    obtain rfl : o' = k := by omega
    have h8 := hf a' hq'
    have h9 : j ≤ m := by
      rcases Nat.lt_or_ge m j with h | h
      · have := h5 m h (by omega); omega
      · exact h
    rw [e]
    rcases Nat.lt_or_ge j m with h | h
    · have h10 := List.pairwise_iff_getElem.1 hc.1 j m h2 hm h
      rw [e, em] at h10
      have h11 : a' * 2 ^ o' < a * 2 ^ o' := Int.ofNat_lt.1 h10
      have h12 : a * 2 ^ o' ≤ a' * 2 ^ o' := Nat.mul_le_mul_right _ h8
      omega
    · obtain rfl : j = m := by omega
      rw [em] at e
      exact congrArg Prod.fst e.symm

theorem best (frames o : Int) (a : Option Addr) (len cap : Nat) (L : Nat → OpB) (w : World) (hA : OpsB w a len L) (hm : len ≤ 9223372036854775807) :
    Calls Try.prog 4 #[.int .i64 frames, .slice a len cap, .int .i64 o] w fun e w' => e = .returned (.bool true) ∧ Below w.heap.size w w' := by
  have HK := Lib.hid hA.kept
  have HA := Lib.hid (awake04 w _ _ (Sat.start w))
  clear hA
  by_cases hf : ¬ (1 ≤ frames ∧ frames ≤ 256)
  · go_enter Try.func4, Try.ntmps4
    go_wp2_with (fail)
    refine HA.out.mono ?_
    rintro e w1 ⟨rfl, S0⟩
    go_wp2_with (fail)
    refine (begun_no frames 0 w1 (by omega)).mono ?_
    rintro e w2 ⟨rfl, hb2⟩
    go_wp2_with (fail)
    go_ret
    exact ⟨rfl, Sat.ends ((S0.below hb2).emp.perm (star_comm _ _))⟩
  obtain ⟨n, rfl⟩ := Int.eq_ofNat_of_zero_le (show 0 ≤ frames by omega)
  have hn1 : 1 ≤ n := by omega
  have hn2 : n ≤ 256 := by omega
  clear hf
  go_enter Try.func4, Try.ntmps4
  go_wp2_with (fail)
  refine HA.out.mono ?_
  rintro e w1 ⟨rfl, S0⟩
  go_wp2_with (fail)
  refine (begun_yes n 0 w w1 _ S0 hn1 hn2 (by omega)).mono ?_
  rintro e w2 ⟨pm, pb, rfl, S1⟩
  by_cases hbad : 60 < len ∨ o < 0 ∨ 8 < o
  · have hh : 60 < len ∨ (¬ 60 < len ∧ (o < 0 ∨ (¬ o < 0 ∧ 8 < o))) := by omega
    clear hbad
    rcases hh with h | ⟨h1, h2 | ⟨h2, h3⟩⟩
    all_goals
      go_wp2_with (fail)
      go_ret
      exact ⟨rfl, Sat.ends (S1.right.right.emp.perm (star_comm _ _))⟩
  obtain ⟨q, rfl⟩ := Int.eq_ofNat_of_zero_le (show 0 ≤ o by omega)
  have hq8 : q ≤ 8 := by omega
  have hlen : len ≤ 60 := by omega
  clear hbad
  have hd0 : decide ((q : Int) < 0) = false := by simp
  have hd8 : decide (8 < q) = false := by simp; omega
  have hd8' : decide (8 < (q : Int)) = false := by simp; omega
  have B1 : Bst w pb pm 0 n (whole w) w2 := ⟨_, _, _, inv_new 0 n, S1⟩
  clear S1
  go_wp2_with (fail)
  go_loopw [10] (fun i wr => ∃ k : Nat, k ≤ len ∧ i = .int .i64 k ∧ Bst w pb pm 0 n (whole w) wr) (fun i _ => len - (intOf i).toNat)
  case atStart => exact ⟨0, by omega, rfl, B1⟩
  case round =>
    obtain ⟨k, hk, rfl, B2⟩ := hrel
    clear B1
    by_cases hkl : k < len
    · have i1 : (k : Int) < len := by omega
      have hop : ∃ ob off, a = some ⟨ob, off, none⟩ ∧ OpBAt wr ob (off + k * 4) (L k) := by
        obtain ⟨T, H, M, hi, S2⟩ := B2
        rcases HK.out wr (midP pb pm T H * memP pm n M) (S2.perm (by ac_rfl)) with h0 | ⟨ob, off, h1, hops⟩
        · omega
        · exact ⟨ob, off, h1, hops k hkl⟩
      obtain ⟨ob, off, rfl, hop⟩ := hop
      generalize L k = x at hop
      obtain ⟨_, _, q2, _⟩ := hop
      go_wp2_with (fail)
      refine (s_alloc_st pb pm 0 n x.o w _ _ B2).mono ?_
      rintro e w4 ⟨⟨f, k', rfl⟩, B4⟩
      go_wp2_with (fail)
      go_roundw
      case rel => exact ⟨k + 1, by omega, by go_num, B4⟩
      case measure => simp [intOf]; omega
    · obtain rfl : k = len := by omega
      obtain ⟨T, H, M, hi, S2⟩ := B2
      have HI := Lib.hid hi
      clear hi
      go_wp2_with (fail)
      refine (s_blocks pb pm T H w _ _ S2).mono ?_
      rintro e w3 ⟨BL, hcan, ⟨v, rfl, hown⟩, hb3⟩
      have hBl := canB_len hcan S2.small
      obtain ⟨QB, va, vc, rfl, S3, hcells⟩ := blks_part S2 hb3 hown
      have HC := Lib.hid hcan
      clear hown hcan S2
      go_wp2_with (fail)
      go_loopw [12, 13] (fun bv i wr => ∃ (k : Nat) (b : Int), k ≤ BL.length ∧ i = .int .i64 k ∧ bv = .int .i64 b ∧ Hid (BestInv BL q k b) ∧ Below w3.heap.size w3 wr) (fun _ i _ => BL.length - (intOf i).toNat)
      case atStart => exact ⟨0, -1, by omega, rfl, rfl, Lib.hid (Or.inl ⟨rfl, fun i hi => by omega⟩), Below.refl _ _⟩
      case round =>
        obtain ⟨p, b, hp, rfl, rfl, HB, hb4⟩ := hrel
        have S4 := S3.below hb4
        by_cases hpl : p < BL.length
        · have i2 : (p : Int) < BL.length := by omega
          rcases hcells with h0 | ⟨gb, rfl, _, hc⟩
          · rw [h0] at hpl; simp at hpl
          obtain ⟨_, c1⟩ := hc wr _ S4 p hpl
          rw [← ordAt_get BL p hpl] at c1
          have HCL := Lib.hid (hc wr _ S4)
          clear hc
          obtain ⟨z, hz⟩ : ∃ z, ordAt BL p = z := ⟨_, rfl⟩
          rw [hz] at c1
          have HZ := Lib.hid hz
          clear hz
          by_cases hzq : z < q
          · have g1 : decide ((q : Int) ≤ z) = false := by simp; omega
            have H2 := Lib.hid (best_skip HB.out (by rw [HZ.out]; exact hzq))
            go_wp2_with (fail)
            have k1 : ∀ u : Wc (fun w' => wr.drew = w'), u.w.cell? ⟨gb, p * 2 + 1, none⟩ = some (.int .i64 z) := fun u => by rw [← u.h]; exact c1
            (refine region_class (fun w' => wr.drew = w') (by kernel_rfl) (by kernel_rfl) (rfl) ?_; intro _; (repeat (first | go_big_quiet_step ((fail)) | quiet_step ((fail)))); refine wpQuiet_nil ?_; intro wz hz)
            clear k1 g1 c1
            subst hz
            go_wp2_with (fail)
            go_roundw
            case rel => exact ⟨p + 1, b, by omega, by go_num, rfl, H2, by repeat (first | with_reducible exact Below.refl _ _ | with_reducible assumption | with_reducible refine below_drewN ?_ _ | with_reducible refine Below.drew ?_ | with_reducible refine Below.setCell ?_ (by first | omega | (simp <;> omega)) _ | with_reducible refine Below.alloc ?_ (by first | omega | (simp <;> omega)) _)⟩
            case measure => simp [intOf]; omega
          · have g1 : decide ((q : Int) ≤ z) = true := by simp; omega
            rcases HB.out with ⟨rfl, h2⟩ | ⟨j, rfl, h2, h3, h4, h5⟩
            · have H2 := Lib.hid (best_first (k := p) h2 (by rw [HZ.out]; omega))
              clear h2
              go_wp2_with (fail)
              have k1 : ∀ u : Wc (fun w' => wr.drew = w'), u.w.cell? ⟨gb, p * 2 + 1, none⟩ = some (.int .i64 z) := fun u => by rw [← u.h]; exact c1
              (refine region_class (fun w' => wr.drew = w') (by kernel_rfl) (by kernel_rfl) (rfl) ?_; intro _; (repeat (first | go_big_quiet_step ((fail)) | quiet_step ((fail)))); refine wpQuiet_nil ?_; intro wz hz)
              clear k1 g1 c1
              subst hz
              go_wp2_with (fail)
              go_roundw
              case rel => exact ⟨p + 1, _, by omega, by go_num, rfl, H2, by repeat (first | with_reducible exact Below.refl _ _ | with_reducible assumption | with_reducible refine below_drewN ?_ _ | with_reducible refine Below.drew ?_ | with_reducible refine Below.setCell ?_ (by first | omega | (simp <;> omega)) _ | with_reducible refine Below.alloc ?_ (by first | omega | (simp <;> omega)) _)⟩
              case measure => simp [intOf]; omega
            · have hjl : j < BL.length := by omega
              have i3 : (j : Int) < BL.length := by omega
              obtain ⟨_, d1⟩ := HCL.out j hjl
              rw [← ordAt_get BL j hjl] at d1
              obtain ⟨y, hy⟩ : ∃ y, ordAt BL j = y := ⟨_, rfl⟩
              rw [hy] at d1
              have HY := Lib.hid hy
              clear hy
              have gj : decide ((j : Int) < 0) = false := by simp
              by_cases hzy : z < y
              · have g2 : decide (z < y) = true := by simp; omega
                have H2 := Lib.hid (best_less h2 h4 (by rw [HZ.out]; omega) (by rw [HZ.out, HY.out]; exact hzy))
                clear h2 h3 h4 h5
                go_wp2_with (fail)
                have k1 : ∀ u : Wc (fun w' => wr.drew = w'), u.w.cell? ⟨gb, p * 2 + 1, none⟩ = some (.int .i64 z) := fun u => by rw [← u.h]; exact c1
                have k2 : ∀ u : Wc (fun w' => wr.drew = w'), u.w.cell? ⟨gb, j * 2 + 1, none⟩ = some (.int .i64 y) := fun u => by rw [← u.h]; exact d1
                (refine region_class (fun w' => wr.drew = w') (by kernel_rfl) (by kernel_rfl) (rfl) ?_; intro _; (repeat (first | go_big_quiet_step ((fail)) | quiet_step ((fail)))); refine wpQuiet_nil ?_; intro wz hz)
                clear k1 k2 g1 g2 gj c1 d1
                subst hz
                go_wp2_with (fail)
                go_roundw
                case rel => exact ⟨p + 1, _, by omega, by go_num, rfl, H2, by repeat (first | with_reducible exact Below.refl _ _ | with_reducible assumption | with_reducible refine below_drewN ?_ _ | with_reducible refine Below.drew ?_ | with_reducible refine Below.setCell ?_ (by first | omega | (simp <;> omega)) _ | with_reducible refine Below.alloc ?_ (by first | omega | (simp <;> omega)) _)⟩
                case measure => simp [intOf]; omega
              · have g2 : decide (z < y) = false := by simp; omega
                have H2 := Lib.hid (best_not h2 h3 h4 h5 (by rw [HZ.out, HY.out]; exact hzy))
                clear h2 h3 h4 h5
                go_wp2_with (fail)
                have k1 : ∀ u : Wc (fun w' => wr.drew = w'), u.w.cell? ⟨gb, p * 2 + 1, none⟩ = some (.int .i64 z) := fun u => by rw [← u.h]; exact c1
                have k2 : ∀ u : Wc (fun w' => wr.drew = w'), u.w.cell? ⟨gb, j * 2 + 1, none⟩ = some (.int .i64 y) := fun u => by rw [← u.h]; exact d1
                (refine region_class (fun w' => wr.drew = w') (by kernel_rfl) (by kernel_rfl) (rfl) ?_; intro _; (repeat (first | go_big_quiet_step ((fail)) | quiet_step ((fail)))); refine wpQuiet_nil ?_; intro wz hz)
                clear k1 k2 g1 g2 gj c1 d1
                subst hz
                go_wp2_with (fail)
                go_roundw
                case rel => exact ⟨p + 1, _, by omega, by go_num, rfl, H2, by repeat (first | with_reducible exact Below.refl _ _ | with_reducible assumption | with_reducible refine below_drewN ?_ _ | with_reducible refine Below.drew ?_ | with_reducible refine Below.setCell ?_ (by first | omega | (simp <;> omega)) _ | with_reducible refine Below.alloc ?_ (by first | omega | (simp <;> omega)) _)⟩
                case measure => simp [intOf]; omega
        · obtain rfl : p = BL.length := by omega
          have S5 : Sat w wr (midP pb pm T H * (QB * (memP pm n M * whole w))) := S4.perm (by ac_rfl)
          clear S3 S4
          go_wp2_with (fail)
          refine (s_left' pb pm T H w _ _ S5).mono ?_
          rintro e w' ⟨rfl, rfl⟩
          obtain ⟨C, hC⟩ : ∃ C, cnt T 256 = C := ⟨_, rfl⟩
          rw [hC]
          have HCN := Lib.hid hC
          clear hC
          go_wp2_with (fail)
          refine (s_alloc pb pm T H q w _ _ S5 hq8 (inv_fresh HI.out)).mono ?_
          intro e w5 hp
          cases hp with
          | no he hn hs =>
            obtain rfl := best_none HB.out HC.out hn
            subst he
            go_wp2_with (fail)
            have hL := s_left' pb pm T H w _ _ hs
            rw [HCN.out] at hL
            refine hL.mono ?_
            rintro e w' ⟨rfl, rfl⟩
            clear hL
            go_wp2_with (fail)
            go_ret
            exact ⟨rfl, Sat.ends (hs.right.right.right.emp.perm (star_comm _ _))⟩
          | yes aa kk ff hk hk8 hcq hl hfm hff he hs =>
            obtain ⟨j, hjl, rfl, hj1⟩ := best_some HB.out HC.out hk hk8 hcq hl hfm
            obtain ⟨d, rfl⟩ : ∃ d, kk = q + d := ⟨kk - q, by omega⟩
            have hfe : ff = (aa * 2 ^ d) * 2 ^ q := by rw [hff, Nat.pow_add, Nat.mul_assoc, Nat.mul_comm (2 ^ d)]
            have hd : ff / 2 ^ q = aa * 2 ^ d := by rw [hfe]; exact in_block _ _
            rw [← hff] at hj1
            have hfc : QFull T (aa * 2 ^ d) q := full_up (d := d) (b := aa) hcq.1 (in_block aa d)
            rw [hd] at hs
            generalize aa * 2 ^ d = c at hfe hfc hs
            have hsm := S5.small
            have hfit := full_small hsm hfc
            have hcm := cnt_minus hfc hfit
            have hi1 := inv_alloc HI.out hq8 hfc
            rw [← hfe] at hi1
            have hcp := cnt_plus (T := minusQ T c q) (a := c) (o := q) (k := 256) (fun x hx h => h.2 hx) hfit
            obtain ⟨P, hP⟩ : ∃ P : Nat, 2 ^ q = P := ⟨_, rfl⟩
            have hPz : (2 : Int) ^ q = (P : Int) := by rw [← hP]; push_cast; rfl
            have hP2 : P ≤ 256 := by rw [← hP]; exact Nat.pow_le_pow_right (n := 2) (by omega) hq8
            obtain ⟨C', hC'⟩ : ∃ C', cnt (minusQ T c q) 256 = C' := ⟨_, rfl⟩
            rw [HCN.out, hC', hP] at hcm
            rw [hC', hP] at hcp
            have hC2 : C ≤ 256 := by
              have := cnt_add (T := fun x => 0 ≤ x) (A := T) (B := fun x => ¬ T x) (fun x => by simp [Classical.em]) (fun x h1 h2 => h2 h1) 256
              rw [cnt_range, HCN.out] at this
              omega
            have hw2 : IntKind.i64.wrap (P : Int) = (P : Int) := IntWalk.i64_in _ ⟨by omega, by omega⟩
            have hw3 : IntKind.i64.wrap ((C : Int) - (P : Int)) = (C' : Int) := by rw [IntWalk.i64_in _ ⟨by omega, by omega⟩]; omega
            have hcell : ∃ gb, va = some ⟨gb, 0, none⟩ ∧ ∀ w' P', Sat w w' (QB * P') → w'.cell? ⟨gb, j * 2, none⟩ = some (.int .i64 ff) := by
              rcases hcells with h0 | ⟨gb, h1, _, hc⟩
              · rw [h0] at hjl; simp at hjl
              · exact ⟨gb, h1, fun w' P' h' => by have := (hc w' P' h' j hjl).1; rw [hj1] at this; exact this⟩
            obtain ⟨gb, rfl, hcell⟩ := hcell
            have S6 : Sat w w5 (midP pb pm (minusQ T c q) (H ++ [((ff : Int), (q : Int))]) * (memP pm n M * (QB * whole w))) := hs.perm (by ac_rfl)
            have hS : ∀ w' T' H' M', Sat w w' (midP pb pm T' H' * (memP pm n M' * (QB * whole w))) → w'.cell? ⟨gb, j * 2, none⟩ = some (.int .i64 ff) := fun w' T' H' M' h' => hcell w' (midP pb pm T' H' * (memP pm n M' * whole w)) (h'.perm (by ac_rfl))
            have HLE : Hid (∀ w', Sat w w' (midP pb pm (minusQ T c q) (H ++ [((ff : Int), (q : Int))]) * (memP pm n M * (QB * whole w))) → Calls Try.prog 18 #[.pointer (some ⟨pb, 0, none⟩)] w' fun e w'' => e = .returned (.int .i64 C') ∧ w' = w'') := Lib.hid fun w' h' => by
              have := s_left' pb pm _ _ w w' _ h'
              rw [hC'] at this
              exact this
            have HFR : Hid (∀ w', Sat w w' (midP pb pm (minusQ T c q) (H ++ [((ff : Int), (q : Int))]) * (memP pm n M * (QB * whole w))) → Calls Try.prog 20 #[.pointer (some ⟨pb, 0, none⟩), .int .i64 ff, .int .i64 q] w' fun e w'' => e = .returned (.int .i64 0) ∧ ∃ H' M', Sat w w'' (midP pb pm (plusQ (minusQ T c q) c q) H' * (memP pm n M' * (QB * whole w)))) := Lib.hid fun w' h' => (s_free_at pb pm 0 n _ _ M ff q w w' _ h' hi1).mono (by
              intro e w'' hp
              cases hp with
              | no hn _ _ => exact absurd (List.mem_append_right _ (List.mem_singleton.2 rfl)) hn
              | yes c2 k2 hf2 ho2 _ _ _ _ he2 _ hs2 =>
                obtain rfl : k2 = q := by omega
                obtain rfl : c2 = c := by
                  have : c2 * 2 ^ k2 = c * 2 ^ k2 := by omega
                  exact Nat.eq_of_mul_eq_mul_right (Nat.two_pow_pos _) this
                exact ⟨he2, _, _, hs2⟩)
            have HLE2 : Hid (∀ w' H' M', Sat w w' (midP pb pm (plusQ (minusQ T c q) c q) H' * (memP pm n M' * (QB * whole w))) → Calls Try.prog 18 #[.pointer (some ⟨pb, 0, none⟩)] w' fun e w'' => e = .returned (.int .i64 C) ∧ w' = w'') := Lib.hid fun w' H' M' h' => by
              have := s_left' pb pm _ _ w w' _ h'
              rw [hcp, ← hcm] at this
              exact this
            subst he
            have i3 : (j : Int) < BL.length := by omega
            have gj : decide ((j : Int) < 0) = false := by simp
            have hc0 := hS _ _ _ _ S6
            clear hs hcell hcells hfe hff hd hfc hsm hfit hcm hcp hi1 hP hC' hj1 hl hfm hcq hk hk8 hd0 hd8 hd8'
            go_wp2_with (fail)
            go_region_held3 (fun w' => w'.cell? ⟨gb, j * 2, none⟩ = some (.int .i64 ff)) (first | exact hS _ _ _ _ (by first | assumption | exact Sat.drew (by assumption)) | assumption)
              ((first
                | (go_at_call 18
                   refine (HLE.out _ (by first | assumption | exact Sat.drew (by assumption))).mono ?_
                   rintro e w7 ⟨rfl, rfl⟩)
                | (go_at_call 20
                   refine (HFR.out _ (by first | assumption | exact Sat.drew (by assumption))).mono ?_
                   rintro e w7 ⟨rfl, H7, M7, S7⟩)
                | (go_at_call 18
                   refine (HLE2.out _ _ _ (by first | assumption | exact Sat.drew (by assumption))).mono ?_
                   rintro e w8 ⟨rfl, rfl⟩)))
            go_wp2_with (fail)
            go_ret
            exact ⟨rfl, Sat.ends (S7.right.right.right.emp.perm (star_comm _ _))⟩

end Go.Proofs.Ytoiiblajgkdabaa
