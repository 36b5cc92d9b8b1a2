/- SlotsOthers: always true. -/
import Derived.Test.YtjacbcephokbbaaDoorRowW
import Derived.Deep.CutBlock
namespace Go.Proofs.YtjacbcephokbbaaDoor
set_option linter.unusedSimpArgs false
set_option linter.unusedVariables false
set_option maxRecDepth 100000
open Go.RowKit Go.Shelf
set_option maxHeartbeats 40000000

theorem maxLen_ge15 {n : Nat} (h : n ≤ 1000000000) : n ≤ maxLen := by unfold maxLen; omega
theorem others15 (a : Option Addr) (len cap : Nat) (d p f m : Int) (L : Nat → Op4) (w : World) (hA : Ops4 w a len L) (hT : TabAt 0 Lib.deBruijn64tab w) (hm : len ≤ 9223372036854775807) (hL : ∀ i, i < len → I64 (L i).d ∧ I64 (L i).p ∧ I64 (L i).f ∧ I64 (L i).m) (hm63 : m ≤ 9223372036854775807) :
    Calls Tryd.prog 5 #[.slice a len cap, .agg #[.int .i64 d, .int .i64 p, .int .i64 f, .int .i64 m]] w fun e w' => e = .returned (.bool true) ∧ Below w.heap.size w w' := by
  have HKK := Lib.hid hA.kept
  have HTT := Lib.hid (tabd_start hT)
  have HL := Lib.hid hL
  obtain ⟨i0, hi0, hz0, hz1, hz2⟩ := info_parts infoSlot
  have HIB := Lib.hid (⟨hi0, hz0, hz1, hz2⟩ : _ ∧ _ ∧ _ ∧ _)
  clear hA hT hL hi0 hz0 hz1 hz2
  go_enter Tryd.func5, Tryd.ntmps5
  go_upto_region 1 with (fail)
  have S00 := (Sat.start w).pt_new (.cells #[.int .i64 d, .int .i64 p, .int .i64 f, .int .i64 m] 30)
  obtain ⟨w0, hw0⟩ : ∃ w0, w0 = w.alloc (.cells #[.int .i64 d, .int .i64 p, .int .i64 f, .int .i64 m] 30) := ⟨_, rfl⟩
  obtain ⟨bo, hbo⟩ : ∃ bo, bo = w.heap.size := ⟨_, rfl⟩
  rw [← hw0, ← hbo] at S00
  rw [← hw0]
  have hfin : ∀ w' : World, Below bo w w' → Below w.heap.size w w' := fun w' h => by rw [← hbo]; exact h
  have HFIN := Lib.hid hfin
  rw [← hbo]
  clear hw0 hbo hfin
  obtain ⟨RO, hRO⟩ : ∃ RO, RO = YtjacbcephokbbaaDoor.pt bo (.cells #[.int .i64 d, .int .i64 p, .int .i64 f, .int .i64 m] 30) * whole w := ⟨_, rfl⟩
  rw [← hRO] at S00
  have HO : Hid (∀ w' Q, Sat w w' (Q * RO) → w'.cell? ⟨bo, 0, none⟩ = some (.int .i64 d) ∧ w'.cell? ⟨bo, 1, none⟩ = some (.int .i64 p) ∧ w'.cell? ⟨bo, 2, none⟩ = some (.int .i64 f) ∧ w'.cell? ⟨bo, 3, none⟩ = some (.int .i64 m)) := Lib.hid fun w' Q h' => by
    rw [hRO] at h'
    have e := (h'.perm (show _ = YtjacbcephokbbaaDoor.pt bo (.cells #[.int .i64 d, .int .i64 p, .int .i64 f, .int .i64 m] 30) * (Q * whole w) by ac_rfl)).pt_heap
    refine ⟨?_, ?_, ?_, ?_⟩ <;> simp [World.cell?, e]
  have HTD : Hid (Tabd w RO) := Lib.hid (by rw [hRO]; exact HTT.out.star _)
  have HEND : Hid (∀ w' Q, Sat w w' (Q * RO) → Below w.heap.size w w') := Lib.hid fun w' Q h' => by
    rw [hRO] at h'
    exact Sat.ends (h'.perm (show _ = whole w * (Q * YtjacbcephokbbaaDoor.pt bo (.cells #[.int .i64 d, .int .i64 p, .int .i64 f, .int .i64 m] 30)) by ac_rfl))
  have HK : Hid (∀ k, k < len → ∃ b off, a = some ⟨b, off, none⟩ ∧ ∀ w' Q, Sat w w' (Q * RO) → Op4At w' b (off + k * 4) (L k)) := Lib.hid fun k hk => by
    obtain ⟨b, off, e, h⟩ := HKK.out k hk
    refine ⟨b, off, e, fun w' Q h' => h w' (Q * YtjacbcephokbbaaDoor.pt bo (.cells #[.int .i64 d, .int .i64 p, .int .i64 f, .int .i64 m] 30)) ?_⟩
    rw [hRO] at h'
    exact h'.perm (by ac_rfl)
  clear hRO HKK HTT
  go_wp2_with (fail)
  refine (awake15 w w0 RO HTD.out S00).mono ?_
  rintro e w1 ⟨rfl, S0⟩
  go_wp2_with (fail)
  refine (s_slotsnew 40 w w1 _ S0 (by omega) (by omega)).mono ?_
  rintro e w2 ⟨pt, rfl, S1⟩
  by_cases hlen : 40 < len
  · go_wp2_with (fail)
    go_ret
    exact ⟨rfl, HEND.out _ _ S1⟩
  go_wp2_with (fail)
  go_loopw [8] (fun i wr => ∃ k : Nat, k ≤ len ∧ i = .int .i64 k ∧ ∃ M, Sat w wr (tabP pt 40 M * RO)) (fun i _ => len - (intOf i).toNat)
  case atStart => exact ⟨0, by omega, rfl, [], S1⟩
  case round =>
    obtain ⟨k, hk, rfl, M, S2⟩ := hrel
    clear S1 S0 S00
    by_cases hkl : k < len
    · have i1 : (k : Int) < len := by omega
      obtain ⟨ob, off, rfl, hop⟩ := HK.out k hkl
      have q := hop wr _ S2
      have hb := HL.out k hkl
      generalize L k = x at q hb
      obtain ⟨q0, q1, q2, q3⟩ := q
      have hmx := hb.2.2.2.2
      have S3 := S2.drew
      have m1 : ∀ z : Wc (fun w' => wr.drew = w'), z.w.cell? ⟨ob, off + k * 4 + 1, none⟩ = some (.int .i64 x.p) := fun z => by rw [← z.h]; exact q1
      have m3 : ∀ z : Wc (fun w' => wr.drew = w'), z.w.cell? ⟨ob, off + k * 4 + 3, none⟩ = some (.int .i64 x.m) := fun z => by rw [← z.h]; exact q3
      clear hop q0 q1 q2 q3 hb
      go_wp2_with (fail)
      (refine region_tail (fun w' => wr.drew = w') 11 (by kernel_rfl) (by kernel_rfl) (rfl) ?_; intro _; simp only [List.take_succ_cons, List.take_zero, List.drop_succ_cons, List.drop_zero]; (repeat (first | go_big_quiet_step ((fail)) | quiet_step ((fail)))); refine wpQuiet_nil ?_; intro wz hz)
      subst hz
      clear m1 m3
      go_wp2_with (fail)
      refine (s_ins pt 40 M x.p x.m w _ _ HTD.out S3 hmx).mono ?_
      rintro e w4 ⟨f, kk, L', _, rfl, S4⟩
      go_wp2_with (fail)
      go_roundw
      case rel => exact ⟨k + 1, by omega, by go_num, _, S4⟩
      case measure => simp [intOf]; omega
    · obtain rfl : len = k := by omega
      obtain ⟨S, hok⟩ := S2.tabOk
      have HR := Lib.hid hok.rising
      have hlM := hok.len
      clear hok
      obtain ⟨wo, rfl⟩ : ∃ wo : World, wo = wr := ⟨_, rfl⟩
      go_wp2_with (fail)
      refine (s_slots pt 40 M w _ _ S2).mono ?_
      rintro e w3 ⟨va, rfl, hown, hb3⟩
      obtain ⟨QA, aa, capa, rfl, S3, hqa⟩ := wins_part S2 hb3 hown
      have HQA := Lib.hid hqa
      clear hqa hown hb3 S2
      obtain ⟨o0, o1, o2, o3⟩ := HO.out w3 (QA * tabP pt 40 M) (S3.perm (by ac_rfl))
      have S4 : Sat w w3 (tabP pt 40 M * (QA * RO)) := S3.perm (by ac_rfl)
      clear S3
      go_upto_block 2 with (fail)
      go_cut [10] (fun s wx => ∃ (e : Int) (M' : List Win), s = .int .i64 e ∧ OthersOk p M M' e ∧ Sat w wx (tabP pt 40 M' * (QA * RO)))
      case first =>
        have hins := s_ins pt 40 M p m w w3 (QA * RO) (HTD.out.star QA) S4 hm63
        have HI := Lib.hid hins
        clear hins
        by_cases d0 : d = 0
        · have g0 : (d == 0) = true := by simp [d0]
          clear d0
          go_wp2_with (fail)
          refine HI.out.mono ?_
          rintro e w4 ⟨ff, kk, L', hi, rfl, S5⟩
          obtain ⟨_, hok'⟩ := S5.tabOk
          have hoo := oth_ins hi HR.out hok'.rising
          have HOO := Lib.hid hoo
          clear hoo hok' hi
          go_wp2_with (fail)
          go_meet
          exact ⟨kk, L', rfl, HOO.out, S5⟩
        have g0 : (d == 0) = false := by rw [beq_eq_false_iff_ne]; exact d0
        by_cases d1 : d = 1
        · have g1 : (d == 1) = true := by simp [d1]
          clear d1 d0
          go_wp2_with (fail)
          refine HI.out.mono ?_
          rintro e w4 ⟨ff, kk, L', hi, rfl, S5⟩
          obtain ⟨_, hok'⟩ := S5.tabOk
          have hoo := oth_ins hi HR.out hok'.rising
          have HOO := Lib.hid hoo
          clear hoo hok' hi
          go_wp2_with (fail)
          go_meet
          exact ⟨kk, L', rfl, HOO.out, S5⟩
        have g1 : (d == 1) = false := by rw [beq_eq_false_iff_ne]; exact d1
        have hpl := s_place pt 40 M p f m w w3 _ S4
        have HPL := Lib.hid hpl
        clear hpl
        by_cases d2 : d = 2
        · have g2 : (d == 2) = true := by simp [d2]
          clear d2 d1 d0
          go_wp2_with (fail)
          refine HPL.out.mono ?_
          rintro e w4 ⟨rfl, S5⟩
          obtain ⟨_, hok'⟩ := S5.tabOk
          have hoo := oth_place (n := 40) (p := p) (f := f) (m := m) HR.out hok'.rising
          have HOO := Lib.hid hoo
          clear hoo hok'
          go_wp2_with (fail)
          go_meet
          exact ⟨_, _, rfl, HOO.out, S5⟩
        have g2 : (d == 2) = false := by rw [beq_eq_false_iff_ne]; exact d2
        by_cases d3 : d = 3
        · have g3 : (d == 3) = true := by simp [d3]
          clear d3 d2 d1 d0
          go_wp2_with (fail)
          refine HPL.out.mono ?_
          rintro e w4 ⟨rfl, S5⟩
          obtain ⟨_, hok'⟩ := S5.tabOk
          have hoo := oth_place (n := 40) (p := p) (f := f) (m := m) HR.out hok'.rising
          have HOO := Lib.hid hoo
          clear hoo hok'
          go_wp2_with (fail)
          go_meet
          exact ⟨_, _, rfl, HOO.out, S5⟩
        have g3 : (d == 3) = false := by rw [beq_eq_false_iff_ne]; exact d3
        by_cases d4 : d = 4
        · have g4 : (d == 4) = true := by simp [d4]
          clear d4 d3 d2 d1 d0
          go_wp2_with (fail)
          refine (s_move pt 40 M p f m w w3 _ S4).mono ?_
          rintro e w4 ⟨kk, L', hi, rfl, S5⟩
          obtain ⟨_, hok'⟩ := S5.tabOk
          have hoo := oth_move hi HR.out hok'.rising
          have HOO := Lib.hid hoo
          clear hoo hok' hi
          go_wp2_with (fail)
          go_meet
          exact ⟨kk, L', rfl, HOO.out, S5⟩
        have g4 : (d == 4) = false := by rw [beq_eq_false_iff_ne]; exact d4
        clear d4 d3 d2 d1 d0
        go_wp2_with (fail)
        refine (s_remove pt 40 M p w w3 _ S4).mono ?_
        rintro e w4 ⟨rfl, S5⟩
        go_wp2_with (fail)
        go_meet
        exact ⟨0, _, rfl, oth_remove p M, S5⟩
      case rest =>
        obtain ⟨e, M', rfl, ⟨hE, hN⟩, S5⟩ := hcut
        have HE := Lib.hid hE
        have HN := Lib.hid hN
        obtain ⟨_, hok2⟩ := S5.tabOk
        have hlM' := hok2.len
        clear hE hN S4 o0 o1 o2 o3 hok2 HR
        go_wp2_with (fail)
        refine (s_slots pt 40 M' w _ _ S5).mono ?_
        rintro e5 w5 ⟨vb, rfl, hownb, hb5⟩
        obtain ⟨QB, ab, capb, rfl, S6, hqb⟩ := wins_part S5 hb5 hownb
        have HQB := Lib.hid hqb
        have hw1 := HQA.out w5 _ (S6.perm (show _ = QA * (QB * (tabP pt 40 M' * RO)) by ac_rfl))
        have hw2 := HQB.out w5 _ S6
        have hsame := same15 aa ab capa capb M M' w5 hw1 hw2 (by omega)
        have HSM := Lib.hid hsame
        clear hqb hownb hb5 hw1 hw2 hsame S5
        go_wp2_with (fail)
        refine HSM.out.mono ?_
        rintro e6 w6 ⟨bv, rfl, hbv, hb6⟩
        have S7 := S6.below hb6
        have hor : e = 0 ∨ (e ≠ 0 ∧ bv = true) := by
          by_cases he : e = 0
          · exact Or.inl he
          · exact Or.inr ⟨he, hbv (HE.out he).symm⟩
        clear hbv hb6 S6 HSM HE
        obtain ⟨RR, hRR⟩ : ∃ RR, RR = QB * (tabP pt 40 M' * (QA * RO)) := ⟨_, rfl⟩
        have S8 : Sat w w6 (rowW (.slice none 0 0) [] * RR) := by rw [hRR]; exact rowW_nil S7
        have HQQ : Hid (∀ w' Q, Sat w w' (Q * RR) → ∀ k (hk : k < M.length), ∃ gb, aa = some ⟨gb, 0, none⟩ ∧ w'.cell? ⟨gb, k * 3, none⟩ = some (.int .i64 M[k].p) ∧ w'.cell? ⟨gb, k * 3 + 1, none⟩ = some (.int .i64 M[k].f) ∧ w'.cell? ⟨gb, k * 3 + 2, none⟩ = some (.int .i64 M[k].l)) := Lib.hid fun w' Q h' k hk => by
          rw [hRR] at h'
          exact (HQA.out w' _ (h'.perm (show _ = QA * (Q * (QB * (tabP pt 40 M' * RO))) by ac_rfl))).cells hk
        have HQB2 : Hid (∀ w' Q, Sat w w' (Q * RR) → ∀ k (hk : k < M'.length), ∃ gb, ab = some ⟨gb, 0, none⟩ ∧ w'.cell? ⟨gb, k * 3, none⟩ = some (.int .i64 M'[k].p) ∧ w'.cell? ⟨gb, k * 3 + 1, none⟩ = some (.int .i64 M'[k].f) ∧ w'.cell? ⟨gb, k * 3 + 2, none⟩ = some (.int .i64 M'[k].l)) := Lib.hid fun w' Q h' k hk => by
          rw [hRR] at h'
          exact (HQB.out w' _ (h'.perm (show _ = QB * (Q * (QA * (tabP pt 40 M' * RO))) by ac_rfl))).cells hk
        have HOO : Hid (∀ w' Q, Sat w w' (Q * RR) → w'.cell? ⟨bo, 0, none⟩ = some (.int .i64 d) ∧ w'.cell? ⟨bo, 1, none⟩ = some (.int .i64 p) ∧ w'.cell? ⟨bo, 2, none⟩ = some (.int .i64 f) ∧ w'.cell? ⟨bo, 3, none⟩ = some (.int .i64 m)) := Lib.hid fun w' Q h' => by
          rw [hRR] at h'
          exact HO.out w' (Q * (QB * (QA * tabP pt 40 M'))) (h'.perm (by ac_rfl))
        have HO2 := Lib.hid HOO.out
        have HEND1 : Hid (∀ w' Q, Sat w w' (Q * RR) → Below w.heap.size w w') := Lib.hid fun w' Q h' => by
          rw [hRR] at h'
          exact HEND.out w' (Q * (QB * (QA * tabP pt 40 M'))) (h'.perm (by ac_rfl))
        clear hRR S7
        have hgo : ((e != 0) = false) ∨ ((e != 0) = true ∧ bv = true) := by
          rcases hor with h1 | ⟨h1, h2⟩
          · exact Or.inl (by simp [h1])
          · exact Or.inr ⟨by rw [bne_iff_ne]; exact h1, h2⟩
        clear hor
        have hcut2 : True := trivial
        rcases hgo with ge | ⟨ge, rfl⟩
        all_goals
          go_wp2_with (fail)
          go_loopw [17, 15] (fun i s wr => ∃ k : Nat, k ≤ M.length ∧ i = .int .i64 k ∧ (∃ ra rc, s = .slice ra (notP p (M.take k)).length rc ∧ Sat w wr (rowW (.slice ra (notP p (M.take k)).length rc) (notP p (M.take k)) * RR))) (fun i _ _ => M.length - (intOf i).toNat)
          case atStart => exact ⟨0, by omega, rfl, none, 0, rfl, S8⟩
          case round =>
            obtain ⟨k, hk, rfl, ra, rc, rfl, S9⟩ := hrel
            clear S8
            by_cases hkl : k < M.length
            · have i1 : (k : Int) < M.length := by omega
              obtain ⟨gb, e1, q0, q1, q2⟩ := HQQ.out wr _ S9 k hkl
              obtain ⟨_, o1, _, _⟩ := HOO.out wr _ S9
              have hts : notP p (M.take (k + 1)) = if M[k].p == p then notP p (M.take k) else notP p (M.take k) ++ [M[k]] := by rw [List.take_succ_eq_append_getElem hkl, notP_snoc]
              obtain ⟨x, hxx⟩ : ∃ x, M[k] = x := ⟨_, rfl⟩
              rw [hxx] at q0 q1 q2 hts
              have hnl : (notP p (M.take k)).length ≤ 256 := by have h1 := notP_len p (M.take k); have h2 := List.length_take_le k M; omega
              obtain ⟨NL, hNL⟩ : ∃ NL, notP p (M.take k) = NL := ⟨_, rfl⟩
              rw [hNL] at hts hnl S9 ⊢
              have HTS := Lib.hid hts
              have m1 : ∀ z : Wc (fun w' => wr.drew = w'), z.w.cell? ⟨gb, k * 3, none⟩ = some (.int .i64 x.p) := fun z => by rw [← z.h]; exact q0
              have m2 : ∀ z : Wc (fun w' => wr.drew = w'), z.w.cell? ⟨bo, 1, none⟩ = some (.int .i64 p) := fun z => by rw [← z.h]; exact o1
              have S10 := S9.drew
              clear hxx hts hNL
              obtain rfl := e1
              cases g : (x.p == p) with
              | true =>
                have g1 : (x.p != p) = false := by simp [bne, g]
                have hn : notP p (M.take (k + 1)) = NL := by rw [HTS.out, g, if_pos rfl]
                have HN2 := Lib.hid hn
                clear hn q0 q1 q2 o1
                go_wp2_with (fail)
                (refine region_class (fun w' => wr.drew = w') (by kernel_rfl) (by kernel_rfl) (rfl) ?_; intro _; (repeat (first | go_big_quiet_step ((fail)) | quiet_step ((fail)))); refine wpQuiet_nil ?_; intro wz hz)
                subst hz
                clear m1 m2
                go_wp2_with (fail)
                go_roundw
                case rel => exact ⟨k + 1, by omega, by go_num, ra, rc, by rw [HN2.out], by rw [HN2.out]; exact S10⟩
                case measure => simp [intOf]; omega
              | false =>
                have g1 : (x.p != p) = true := by simp [bne, g]
                have hn : notP p (M.take (k + 1)) = NL ++ [x] := by rw [HTS.out, g, if_neg (by decide)]
                have HN2 := Lib.hid hn
                go_wp2_with (fail)
                (refine region_class (fun w' => wr.drew = w') (by kernel_rfl) (by kernel_rfl) (rfl) ?_; intro _; (repeat (first | go_big_quiet_step ((fail)) | quiet_step ((fail)))); refine wpQuiet_nil ?_; intro wz hz)
                have z0 : wz.cell? ⟨gb, k * 3, none⟩ = some (.int .i64 x.p) := by rw [← hz]; exact q0
                have z1 : wz.cell? ⟨gb, k * 3 + 1, none⟩ = some (.int .i64 x.f) := by rw [← hz]; exact q1
                have z2 : wz.cell? ⟨gb, k * 3 + 2, none⟩ = some (.int .i64 x.l) := by rw [← hz]; exact q2
                rw [hz] at S10
                have hrow := (rowW_own S10).alloc (.cells #[.int .i64 x.p, .int .i64 x.f, .int .i64 x.l] 38)
                have HRW := Lib.hid hrow
                have HS10 := Lib.hid S10
                clear hz m1 m2 q0 q1 q2 o1 S9 S10 hn hrow HTS
                go_wp2_with (at_builtin; refine list_app (by rfl) _ _ _ (by rfl) 0 38 i0 (.agg #[.int .i64 0, .int .i64 0, .int .i64 0]) 3 24 Tryd.underlying35 HIB.out.1 HIB.out.2.1 HIB.out.2.2.1 HIB.out.2.2.2 rfl (by decide) _ _ _ (by rfl) HRW.out _ 1 (encW x) (by rfl) (lit_srcW _ x _) (by intro u hu; simp [encW] at hu; rcases hu with rfl | rfl | rfl <;> rfl) (maxLen_ge15 (by omega)) (by omega) (by simp) ?_; refine fun v' w5 ha => Hold.out ?_)
                refine ⟨?_⟩
                have S11 := rowW_more HS10.out ha
                obtain ⟨ra', rc', rfl⟩ := own_slice ha.own
                clear ha z0 z1 z2
                go_wp2_with (fail)
                go_roundw
                case rel => exact ⟨k + 1, by omega, by go_num, ra', rc', by rw [HN2.out]; simp, by rw [HN2.out]; simpa using S11⟩
                case measure => simp [intOf]; omega
            · obtain rfl : k = M.length := by omega
              rw [List.take_length] at S9 ⊢
              obtain ⟨ra1, hra1⟩ : ∃ y, y = ra := ⟨_, rfl⟩
              obtain ⟨rc1, hrc1⟩ : ∃ y, y = rc := ⟨_, rfl⟩
              rw [← hra1, ← hrc1] at S9 ⊢
              clear hra1 hrc1 HQQ HOO
              obtain ⟨R2, hR2⟩ : ∃ R2, R2 = rowW (.slice ra1 (notP p M).length rc1) (notP p M) * RR := ⟨_, rfl⟩
              have S8 : Sat w wr (rowW (.slice none 0 0) [] * R2) := by rw [hR2]; exact rowW_nil S9
              have HRR : Hid (∀ w' Q, Sat w w' (Q * R2) → Sat w w' (rowW (.slice ra1 (notP p M).length rc1) (notP p M) * (Q * RR))) := Lib.hid fun w' Q h' => by rw [hR2] at h'; exact h'.perm (by ac_rfl)
              have HQQ : Hid (∀ w' Q, Sat w w' (Q * R2) → ∀ k (hk : k < M'.length), ∃ gb, ab = some ⟨gb, 0, none⟩ ∧ w'.cell? ⟨gb, k * 3, none⟩ = some (.int .i64 M'[k].p) ∧ w'.cell? ⟨gb, k * 3 + 1, none⟩ = some (.int .i64 M'[k].f) ∧ w'.cell? ⟨gb, k * 3 + 2, none⟩ = some (.int .i64 M'[k].l)) := Lib.hid fun w' Q h' k hk => HQB2.out w' _ (HRR.out w' Q h').right k hk
              have HOO : Hid (∀ w' Q, Sat w w' (Q * R2) → w'.cell? ⟨bo, 0, none⟩ = some (.int .i64 d) ∧ w'.cell? ⟨bo, 1, none⟩ = some (.int .i64 p) ∧ w'.cell? ⟨bo, 2, none⟩ = some (.int .i64 f) ∧ w'.cell? ⟨bo, 3, none⟩ = some (.int .i64 m)) := Lib.hid fun w' Q h' => HO2.out w' _ (HRR.out w' Q h').right
              have HEND2 : Hid (∀ w' Q, Sat w w' (Q * R2) → Below w.heap.size w w') := Lib.hid fun w' Q h' => HEND1.out w' _ (HRR.out w' Q h').right
              clear hR2 S9
              obtain ⟨wq, rfl⟩ : ∃ wq : World, wq = wr := ⟨_, rfl⟩
              go_wp2_with (fail)
              go_loopw [18, 16] (fun i s wr => ∃ k : Nat, k ≤ M'.length ∧ i = .int .i64 k ∧ (∃ ra rc, s = .slice ra (notP p (M'.take k)).length rc ∧ Sat w wr (rowW (.slice ra (notP p (M'.take k)).length rc) (notP p (M'.take k)) * R2))) (fun i _ _ => M'.length - (intOf i).toNat)
              case atStart => exact ⟨0, by omega, rfl, none, 0, rfl, S8⟩
              case round =>
                obtain ⟨k, hk, rfl, ra, rc, rfl, S9⟩ := hrel
                clear S8
                by_cases hkl : k < M'.length
                · have i1 : (k : Int) < M'.length := by omega
                  obtain ⟨gb, e1, q0, q1, q2⟩ := HQQ.out wr _ S9 k hkl
                  obtain ⟨_, o1, _, _⟩ := HOO.out wr _ S9
                  have hts : notP p (M'.take (k + 1)) = if M'[k].p == p then notP p (M'.take k) else notP p (M'.take k) ++ [M'[k]] := by rw [List.take_succ_eq_append_getElem hkl, notP_snoc]
                  obtain ⟨x, hxx⟩ : ∃ x, M'[k] = x := ⟨_, rfl⟩
                  rw [hxx] at q0 q1 q2 hts
                  have hnl : (notP p (M'.take k)).length ≤ 256 := by have h1 := notP_len p (M'.take k); have h2 := List.length_take_le k M'; omega
                  obtain ⟨NL, hNL⟩ : ∃ NL, notP p (M'.take k) = NL := ⟨_, rfl⟩
                  rw [hNL] at hts hnl S9 ⊢
                  have HTS := Lib.hid hts
                  have m1 : ∀ z : Wc (fun w' => wr.drew = w'), z.w.cell? ⟨gb, k * 3, none⟩ = some (.int .i64 x.p) := fun z => by rw [← z.h]; exact q0
                  have m2 : ∀ z : Wc (fun w' => wr.drew = w'), z.w.cell? ⟨bo, 1, none⟩ = some (.int .i64 p) := fun z => by rw [← z.h]; exact o1
                  have S10 := S9.drew
                  clear hxx hts hNL
                  obtain rfl := e1
                  cases g : (x.p == p) with
                  | true =>
                    have g1 : (x.p != p) = false := by simp [bne, g]
                    have hn : notP p (M'.take (k + 1)) = NL := by rw [HTS.out, g, if_pos rfl]
                    have HN2 := Lib.hid hn
                    clear hn q0 q1 q2 o1
                    go_wp2_with (fail)
                    (refine region_class (fun w' => wr.drew = w') (by kernel_rfl) (by kernel_rfl) (rfl) ?_; intro _; (repeat (first | go_big_quiet_step ((fail)) | quiet_step ((fail)))); refine wpQuiet_nil ?_; intro wz hz)
                    subst hz
                    clear m1 m2
                    go_wp2_with (fail)
                    go_roundw
                    case rel => exact ⟨k + 1, by omega, by go_num, ra, rc, by rw [HN2.out], by rw [HN2.out]; exact S10⟩
                    case measure => simp [intOf]; omega
                  | false =>
                    have g1 : (x.p != p) = true := by simp [bne, g]
                    have hn : notP p (M'.take (k + 1)) = NL ++ [x] := by rw [HTS.out, g, if_neg (by decide)]
                    have HN2 := Lib.hid hn
                    go_wp2_with (fail)
                    (refine region_class (fun w' => wr.drew = w') (by kernel_rfl) (by kernel_rfl) (rfl) ?_; intro _; (repeat (first | go_big_quiet_step ((fail)) | quiet_step ((fail)))); refine wpQuiet_nil ?_; intro wz hz)
                    have z0 : wz.cell? ⟨gb, k * 3, none⟩ = some (.int .i64 x.p) := by rw [← hz]; exact q0
                    have z1 : wz.cell? ⟨gb, k * 3 + 1, none⟩ = some (.int .i64 x.f) := by rw [← hz]; exact q1
                    have z2 : wz.cell? ⟨gb, k * 3 + 2, none⟩ = some (.int .i64 x.l) := by rw [← hz]; exact q2
                    rw [hz] at S10
                    have hrow := (rowW_own S10).alloc (.cells #[.int .i64 x.p, .int .i64 x.f, .int .i64 x.l] 38)
                    have HRW := Lib.hid hrow
                    have HS10 := Lib.hid S10
                    clear hz m1 m2 q0 q1 q2 o1 S9 S10 hn hrow HTS
                    go_wp2_with (at_builtin; refine list_app (by rfl) _ _ _ (by rfl) 0 38 i0 (.agg #[.int .i64 0, .int .i64 0, .int .i64 0]) 3 24 Tryd.underlying35 HIB.out.1 HIB.out.2.1 HIB.out.2.2.1 HIB.out.2.2.2 rfl (by decide) _ _ _ (by rfl) HRW.out _ 1 (encW x) (by rfl) (lit_srcW _ x _) (by intro u hu; simp [encW] at hu; rcases hu with rfl | rfl | rfl <;> rfl) (maxLen_ge15 (by omega)) (by omega) (by simp) ?_; refine fun v' w5 ha => Hold.out ?_)
                    refine ⟨?_⟩
                    have S11 := rowW_more HS10.out ha
                    obtain ⟨ra', rc', rfl⟩ := own_slice ha.own
                    clear ha z0 z1 z2
                    go_wp2_with (fail)
                    go_roundw
                    case rel => exact ⟨k + 1, by omega, by go_num, ra', rc', by rw [HN2.out]; simp, by rw [HN2.out]; simpa using S11⟩
                    case measure => simp [intOf]; omega
                · obtain rfl : k = M'.length := by omega
                  rw [List.take_length] at S9 ⊢
                  obtain ⟨ab2, cb2, eb, hwb⟩ := rowW_at S9
                  have hrest := HRR.out _ _ S9
                  obtain ⟨ab1, cb1, ea, hwa⟩ := rowW_at hrest
                  simp only [Value.slice.injEq] at eb ea
                  obtain ⟨rfl, -, rfl⟩ := eb
                  obtain ⟨rfl, -, rfl⟩ := ea
                  have hle : (notP p M).length ≤ 1000000 := by have := notP_len p M; omega
                  have hsame := same15 ra1 ra rc1 rc (notP p M) (notP p M') wr hwa hwb hle
                  have HSM := Lib.hid hsame
                  have HEN := Lib.hid (HEND2.out wr _ S9)
                  clear hwa hwb hrest hsame hle S9
                  go_wp2_with (fail)
                  refine HSM.out.mono ?_
                  rintro e9 w9 ⟨bv2, rfl, hbv2, hb9⟩
                  obtain rfl : bv2 = true := hbv2 HN.out.symm
                  clear hbv2
                  go_wp2_with (fail)
                  go_ret
                  exact ⟨rfl, HEN.out.trans (hb9.mono HEN.out.size)⟩

end Go.Proofs.YtjacbcephokbbaaDoor
