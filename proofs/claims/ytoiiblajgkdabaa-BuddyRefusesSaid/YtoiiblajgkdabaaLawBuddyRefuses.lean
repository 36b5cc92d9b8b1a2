/- BuddyRefuses: always true. -/
import Derived.Test.YtoiiblajgkdabaaLawB
import Derived.Test.YtoiiblajgkdabaaClass
import Derived.Laws.BitsLemmas
namespace Go.Proofs.Ytoiiblajgkdabaa
set_option linter.unusedSimpArgs false
set_option linter.unusedVariables false
set_option maxRecDepth 100000
open Go.RowKit
set_option maxHeartbeats 4000000

theorem take_mem (L : List Blk) (k : Nat) (h : k < L.length) (x : Blk) : x ∈ L.take (k + 1) ↔ (x ∈ L.take k ∨ L[k] = x) := by
  rw [List.take_succ_eq_append_getElem h, List.mem_append, List.mem_singleton]; exact or_congr Iff.rfl eq_comm
theorem and7 (o : Int) : 0 ≤ bits .and .i64 o 7 ∧ bits .and .i64 o 7 ≤ 7 := by
  have h7 : (BitVec.ofInt 64 7).toNat = 2 ^ 3 - 1 := by decide
  have key : (BitVec.ofInt 64 o &&& BitVec.ofInt 64 7).toNat = (o % ((2 ^ 64 : Nat) : Int)).toNat % 2 ^ 3 := by
    rw [BitVec.toNat_and, BitVec.toNat_ofInt, h7, Nat.and_two_pow_sub_one_eq_mod]
  have e : bits .and .i64 o 7 = o % 8 := by
    show IntKind.i64.wrap ((BitVec.ofInt 64 o &&& BitVec.ofInt 64 7).toNat : Nat) = o % 8
    rw [key, IntKind.wrap_i64]
    omega
  rw [e]; omega

theorem refuses (frames f o : Int) (a : Option Addr) (len cap : Nat) (L : Nat → OpB) (w : World) (hA : OpsB w a len L) (hm : len ≤ 9223372036854775807) (hbf : I64 f) (hbo : I64 o) :
    Calls Try.prog 6 #[.int .i64 frames, .slice a len cap, .agg #[.int .i64 f, .int .i64 o]] w fun e w' => e = .returned (.bool true) ∧ Below w.heap.size w w' := by
  have HK := Lib.hid hA.kept
  have hnew := (Sat.start w).pt_new (.cells #[.int .i64 f, .int .i64 o] 44)
  have HA := Lib.hid (awake04 w _ _ hnew)
  clear hnew hA
  go_enter Try.func6, Try.ntmps6
  go_wp2_with (fail)
  refine HA.out.mono ?_
  rintro e w1 ⟨rfl, S0⟩
  have e0 := S0.pt_heap.trans (heap_alloc_new w (.cells #[.int .i64 f, .int .i64 o] 44)).symm
  have q0 : w1.cell? ⟨w.heap.size, 0, none⟩ = some (.int .i64 f) := (cell_of_heap e0 0).trans (by simp [go_sem])
  have q1 : w1.cell? ⟨w.heap.size, 1, none⟩ = some (.int .i64 o) := (cell_of_heap e0 1).trans (by simp [go_sem])
  have S0 := S0.right
  clear e0
  by_cases hf : ¬ (1 ≤ frames ∧ frames ≤ 256)
  · go_wp2_with (fail)
    refine (begun_no frames 0 w1 (by omega)).mono ?_
    rintro e w2 ⟨rfl, hb2⟩
    go_wp2_with (fail)
    go_ret
    exact ⟨rfl, Sat.ends ((S0.below hb2).emp.perm (star_comm _ _))⟩
  obtain ⟨n, rfl⟩ := Int.eq_ofNat_of_zero_le (show 0 ≤ frames by omega)
  have hn1 : 1 ≤ n := by omega
  have hn2 : n ≤ 256 := by omega
  clear hf
  go_wp2_with (fail)
  refine (begun_yes n 0 w w1 _ S0 hn1 hn2 (by omega)).mono ?_
  rintro e w2 ⟨pm, pb, rfl, S1⟩
  by_cases hlen : 40 < len
  · go_wp2_with (fail)
    go_ret
    exact ⟨rfl, Sat.ends (S1.right.right.emp.perm (star_comm _ _))⟩
  have B1 : Bst w pb pm 0 n (whole w) w2 := ⟨_, _, _, inv_new 0 n, S1⟩
  clear S1 q0 q1
  go_wp2_with (fail)
  go_loopw [12] (fun i wr => ∃ k : Nat, k ≤ len ∧ i = .int .i64 k ∧ Bst w pb pm 0 n (whole w) wr) (fun i _ => len - (intOf i).toNat)
  case atStart => exact ⟨0, by omega, rfl, B1⟩
  case round =>
    obtain ⟨k, hk, rfl, B2⟩ := hrel
    clear B1
    by_cases hkl : k < len
    · have i1 : (k : Int) < len := by omega
      have hop : ∃ ob off, a = some ⟨ob, off, none⟩ ∧ OpBAt wr ob (off + k * 4) (L k) := by
        obtain ⟨T, H, M, hi, S2⟩ := B2
        rcases HK.out wr (midP pb pm T H * memP pm n M) (S2.perm (by ac_rfl)) with h0 | ⟨ob, off, h1, hops⟩
        · omega
        · exact ⟨ob, off, h1, hops k hkl⟩
      obtain ⟨ob, off, rfl, hop⟩ := hop
      generalize L k = x at hop
      obtain ⟨_, _, q2, _⟩ := hop
      go_wp2_with (fail)
      refine (s_alloc_st pb pm 0 n x.o w _ _ B2).mono ?_
      rintro e w4 ⟨⟨f, k', rfl⟩, B4⟩
      go_wp2_with (fail)
      go_roundw
      case rel => exact ⟨k + 1, by omega, by go_num, B4⟩
      case measure => simp [intOf]; omega
    · obtain rfl : k = len := by omega
      obtain ⟨T, H, M, hi, S2⟩ := B2
      have HI := Lib.hid hi
      have hHl := inv_len hi hn2
      clear hi
      go_wp2_with (fail)
      refine (s_held pb pm T H w _ _ S2 (by omega)).mono ?_
      rintro e w3 ⟨HL, hperm, _, ⟨v, rfl, hown⟩, hb3⟩
      have hHL : HL.length ≤ 2304 := by rw [hperm.length_eq]; exact hHl
      have hcells := blk_cells hown
      obtain ⟨va, vc, rfl⟩ := own_slice hown
      have S3 := S2.below hb3
      have HPM := Lib.hid hperm
      clear hown hperm hHl S2
      go_wp2_with (fail)
      go_loop [14, 15] (fun gv i => ∃ k : Nat, k ≤ HL.length ∧ i = .int .i64 k ∧ gv = .bool (decide ((f, o) ∈ HL.take k))) (fun _ i => HL.length - (intOf i).toNat)
      case atStart => exact ⟨0, by omega, rfl, by simp⟩
      case round =>
        obtain ⟨k, hk, rfl, rfl⟩ := hrel
        by_cases hkl : k < HL.length
        · have i1 : (k : Int) < HL.length := by omega
          have hst := take_mem HL k hkl (f, o)
          rcases hcells with h0 | ⟨gb, cap', hgv, hgl, _, hc⟩
          · rw [h0] at hkl; simp at hkl
          simp only [Value.slice.injEq] at hgv
          obtain ⟨rfl, -, rfl⟩ := hgv
          obtain ⟨c0, c1⟩ := hc k hkl
          generalize HL[k] = z at c0 c1 hst
          clear hc
          have HST := Lib.hid hst
          clear hst
          by_cases h1 : (f, o) ∈ HL.take k
          · have h3 : decide ((f, o) ∈ HL.take (k + 1)) = true := decide_eq_true (HST.out.2 (Or.inl h1))
            rw [decide_eq_true h1]
            have H3 := Lib.hid h3
            clear h3 h1
            go_wp2_with (fail)
            go_round
            case rel => exact ⟨k + 1, by omega, by go_num, by rw [H3.out]⟩
            case measure => simp [intOf]; omega
          · by_cases h2 : z = (f, o)
            · have h3 : decide ((f, o) ∈ HL.take (k + 1)) = true := decide_eq_true (HST.out.2 (Or.inr h2))
              rw [decide_eq_false h1]
              have H3 := Lib.hid h3
              subst h2
              clear h3 h1
              go_wp2_with (fail)
              go_round
              case rel => exact ⟨k + 1, by omega, by go_num, by rw [H3.out]⟩
              case measure => simp [intOf]; omega
            · have h3 : decide ((f, o) ∈ HL.take (k + 1)) = false := decide_eq_false (fun h => (HST.out.1 h).elim h1 h2)
              rw [decide_eq_false h1]
              have H3 := Lib.hid h3
              clear h3 h1
              by_cases h4 : z.1 = f
              · have h5 : ¬ z.2 = o := fun e => h2 (Prod.ext h4 e)
                have g1 : (z.1 == f) = true := by simp [h4]
                have g2 : (z.2 == o) = false := by rw [beq_eq_false_iff_ne]; exact h5
                clear h2 h4 h5
                go_wp2_with (fail)
                go_round
                case rel => exact ⟨k + 1, by omega, by go_num, by rw [H3.out]⟩
                case measure => simp [intOf]; omega
              · have g1 : (z.1 == f) = false := by rw [beq_eq_false_iff_ne]; exact h4
                clear h2 h4
                go_wp2_with (fail)
                go_round
                case rel => exact ⟨k + 1, by omega, by go_num, by rw [H3.out]⟩
                case measure => simp [intOf]; omega
        · obtain rfl : k = HL.length := by omega
          rw [List.take_length]
          have hmem : ((f, o) ∈ HL) ↔ ((f, o) ∈ H) := HPM.out.mem_iff
          obtain ⟨B, hB⟩ : ∃ B, decide ((f, o) ∈ HL) = B := ⟨_, rfl⟩
          rw [hB]
          have HB := Lib.hid hB
          clear hB
          go_wp2_with (fail)
          refine (s_left' pb pm T H w _ _ S3).mono ?_
          rintro e w' ⟨rfl, rfl⟩
          obtain ⟨C, hC⟩ : ∃ C, cnt T 256 = C := ⟨_, rfl⟩
          rw [hC]
          have HCN := Lib.hid hC
          clear hC
          go_wp2_with (fail)
          refine (s_free_at pb pm 0 n T H M f o w _ _ S3 HI.out).mono ?_
          intro e w4 hp
          cases hp with
          | no hn he hs =>
            subst he
            obtain rfl : B = false := HB.out.symm.trans (decide_eq_false (fun h => hn (hmem.1 h)))
            have hbd := and7 o
            have HNL := Lib.hid HPM.out.length_eq
            clear hn hmem S3
            go_wp2_with (fail)
            generalize bits .and .i64 o 7 = y at hbd
            obtain ⟨y0, y7⟩ := hbd
            refine (s_alloc_bad pb _ _ (Or.inr (by omega))).mono ?_
            rintro e w5 ⟨rfl, rfl⟩
            go_wp2_with (fail)
            refine (s_alloc_bad pb _ _ (Or.inl (by omega))).mono ?_
            rintro e w5 ⟨rfl, rfl⟩
            go_wp2_with (fail)
            refine (s_held pb pm T H w _ _ hs (by have := HNL.out; omega)).mono ?_
            rintro e w5 ⟨HL2, hperm2, _, ⟨v2, rfl, hown2⟩, hb5⟩
            have hl2 : HL2.length = HL.length := hperm2.length_eq.trans HNL.out.symm
            rw [hl2] at hown2
            obtain ⟨va2, vc2, rfl⟩ := own_slice hown2
            have S5 := hs.below hb5
            clear hown2 hperm2 hl2 hs
            go_wp2_with (fail)
            have hL := s_left' pb pm T H w _ _ S5
            rw [HCN.out] at hL
            refine hL.mono ?_
            rintro e w' ⟨rfl, rfl⟩
            clear hL
            go_wp2_with (fail)
            go_ret
            exact ⟨rfl, Sat.ends (S5.right.right.emp.perm (star_comm _ _))⟩
          | yes c k hf ho hk hin hdis hfit he hi' hs =>
            subst he
            obtain rfl : B = true := HB.out.symm.trans (decide_eq_true (hmem.2 (by rw [hf, ho]; exact hin)))
            have hl2 : (H.erase (((c * 2 ^ k : Nat) : Int), (k : Int))).length + 1 = HL.length := by
              rw [List.length_erase_of_mem hin, HPM.out.length_eq]
              have := List.length_pos_of_mem hin
              omega
            obtain ⟨P, hP⟩ : ∃ P : Nat, 2 ^ k = P := ⟨_, rfl⟩
            have hPz : (2 : Int) ^ k = (P : Int) := by rw [← hP]; push_cast; rfl
            have hP2 : P ≤ 256 := by rw [← hP]; exact Nat.pow_le_pow_right (n := 2) (by omega) hk
            have hcn := cnt_plus (k := 256) hdis (by omega)
            rw [HCN.out, hP] at hcn
            have hC2 : cnt (plusQ T c k) 256 ≤ 256 := by
              have := cnt_add (T := fun x => 0 ≤ x) (A := plusQ T c k) (B := fun x => ¬ plusQ T c k x) (fun x => by simp [Classical.em]) (fun x h1 h2 => h2 h1) 256
              rw [cnt_range] at this
              omega
            generalize plusQ T c k = T' at hs hcn hi' hC2
            generalize H.erase (((c * 2 ^ k : Nat) : Int), (k : Int)) = H' at hs hl2 hi'
            generalize scrubW M (c * 2 ^ k) (2 ^ k) = M2 at hs
            obtain ⟨C', hC'⟩ : ∃ C', cnt T' 256 = C' := ⟨_, rfl⟩
            rw [hC'] at hcn hC2
            obtain ⟨N, hN⟩ : ∃ N, H'.length = N := ⟨_, rfl⟩
            rw [hN] at hl2
            have hw1 : IntKind.i64.wrap ((HL.length : Int) - 1) = (N : Int) := by rw [IntWalk.i64_in _ ⟨by omega, by omega⟩]; omega
            have hw2 : IntKind.i64.wrap (P : Int) = (P : Int) := IntWalk.i64_in _ ⟨by omega, by omega⟩
            have hw3 : IntKind.i64.wrap ((C : Int) + (P : Int)) = (C' : Int) := by rw [IntWalk.i64_in _ ⟨by omega, by omega⟩]; omega
            have HNN := Lib.hid hN
            have HCC := Lib.hid hC'
            obtain rfl := ho
            have HHE : Hid (∀ w', Below w4.heap.size w4 w' → Calls Try.prog 17 #[.pointer (some ⟨pb, 0, none⟩)] w' fun e w'' => ∃ b c', e = .returned (.slice b N c') ∧ Below w4.heap.size w4 w'') := Lib.hid fun w' hb => (s_held pb pm T' H' w w' _ (hs.below hb) (by omega)).mono (by
              rintro e w5 ⟨HL2, hperm2, _, ⟨v2, rfl, hown2⟩, hb5⟩
              rw [hperm2.length_eq, HNN.out] at hown2
              obtain ⟨va2, vc2, rfl⟩ := own_slice hown2
              exact ⟨_, _, rfl, hb.trans (hb5.mono hb.size)⟩)
            have HLE : Hid (∀ w', Below w4.heap.size w4 w' → Calls Try.prog 18 #[.pointer (some ⟨pb, 0, none⟩)] w' fun e w'' => e = .returned (.int .i64 C') ∧ w' = w'') := Lib.hid fun w' hb => by
              have := s_left' pb pm T' H' w w' _ (hs.below hb)
              rw [HCC.out] at this
              exact this
            clear hl2 hP hcn hf hin hdis hfit hi' hmem hN hC' hHL hcells
            go_wp2_with (fail)
            go_region_held3 (fun _ => True) (trivial)
              ((first
                | (go_at_call 17
                   refine (HHE.out _ (by repeat (first | with_reducible exact Below.refl _ _ | with_reducible assumption | with_reducible refine below_drewN ?_ _ | with_reducible refine Below.drew ?_ | with_reducible refine Below.setCell ?_ (by first | omega | (simp <;> omega)) _ | with_reducible refine Below.alloc ?_ (by first | omega | (simp <;> omega)) _))).mono ?_
                   rintro e w5 ⟨b5, c5, rfl, hb5⟩)
                | (go_at_call 18
                   refine (HLE.out _ (by repeat (first | with_reducible exact Below.refl _ _ | with_reducible assumption | with_reducible refine below_drewN ?_ _ | with_reducible refine Below.drew ?_ | with_reducible refine Below.setCell ?_ (by first | omega | (simp <;> omega)) _ | with_reducible refine Below.alloc ?_ (by first | omega | (simp <;> omega)) _))).mono ?_
                   rintro e w5 ⟨rfl, rfl⟩)))
            go_wp2_with (fail)
            go_ret
            exact ⟨rfl, Sat.ends ((hs.below (by repeat (first | with_reducible exact Below.refl _ _ | with_reducible assumption | with_reducible refine below_drewN ?_ _ | with_reducible refine Below.drew ?_ | with_reducible refine Below.setCell ?_ (by first | omega | (simp <;> omega)) _ | with_reducible refine Below.alloc ?_ (by first | omega | (simp <;> omega)) _))).right.right.emp.perm (star_comm _ _))⟩

end Go.Proofs.Ytoiiblajgkdabaa
