/- SlotsBack: always true. -/
import Derived.Test.YtjacbcephokbbaaDoorLawSlotsFirst
import Derived.Test.YtjacbcephokbbaaDoorWins
namespace Go.Proofs.YtjacbcephokbbaaDoor
set_option linter.unusedSimpArgs false
set_option linter.unusedVariables false
set_option maxRecDepth 100000
open Go.RowKit Go.Shelf
set_option maxHeartbeats 40000000

/-- No window is the partition's 7. -/
def No7 (L : List Win) : Prop := ∀ x ∈ L, x.p < 7
theorem no7_ins {n : Int} {L L' : List Win} {p m f k : Int} (h : No7 L) (hp : p < 7) (hi : InsAt n L p m f k L') : No7 L' := by
  cases hi with
  | bad _ => exact h
  | full _ _ => exact h
  | yes _ _ _ _ => intro x hx; rcases (insW_mem _ _ _).1 hx with rfl | hx; exact hp; exact h x hx
theorem no7_cnt {L : List Win} (h : No7 L) : cntP 7 L = 0 := by
  unfold cntP
  rw [List.countP_eq_zero]
  intro x hx
  have := h x hx
  simp; omega
theorem no7_notP {L : List Win} (h : No7 L) : notP 7 L = L := by
  unfold notP
  rw [List.filter_eq_self]
  intro x hx
  have := h x hx
  simp; omega
theorem ins_cnt {L : List Win} {f m : Int} (h : No7 L) : cntP 7 (insW ⟨7, f, m⟩ L) = 1 := by
  unfold cntP
  rw [(insW_perm _ _).countP_eq, List.countP_cons_of_pos (by simp)]
  have := no7_cnt h
  unfold cntP at this
  rw [this]
theorem notP_sub (p : Int) (L : List Win) : (notP p L).Sublist L := List.filter_sublist
theorem rising_sub {L M : List Win} (h : Rising L) (hs : M.Sublist L) : Rising M := List.Pairwise.sublist hs h
theorem ins_notP {L : List Win} {f m : Int} (h : No7 L) (hr : Rising L) (hr2 : Rising (insW ⟨7, f, m⟩ L)) : notP 7 (insW ⟨7, f, m⟩ L) = L := by
  refine rising_eq ?_ (rising_sub hr2 (notP_sub _ _)) hr
  have h1 : (notP 7 (insW ⟨7, f, m⟩ L)).Perm (notP 7 ((⟨7, f, m⟩ : Win) :: L)) := (insW_perm _ _).filter _
  have h2 : notP 7 ((⟨7, f, m⟩ : Win) :: L) = notP 7 L := by unfold notP; rw [List.filter_cons_of_neg (by simp)]
  rw [h2, no7_notP h] at h1
  exact h1
theorem erase_ins {L : List Win} {f m : Int} (h : No7 L) (hr : Rising L) (hr2 : Rising (insW ⟨7, f, m⟩ L)) {i : Nat} (hi : i < (insW ⟨7, f, m⟩ L).length) (hp : (insW ⟨7, f, m⟩ L)[i].p = 7) : (insW ⟨7, f, m⟩ L)[i] = ⟨7, f, m⟩ ∧ (insW ⟨7, f, m⟩ L).eraseIdx i = L := by
  have h1 : (insW ⟨7, f, m⟩ L)[i] = ⟨7, f, m⟩ := by
    rcases (insW_mem _ _ _).1 (List.getElem_mem hi) with h2 | h2
    · exact h2
    · have := h _ h2; omega
  refine ⟨h1, rising_eq ?_ (rising_sub hr2 (List.eraseIdx_sublist _ _)) hr⟩
  have h3 := (erase_perm _ i hi).trans (insW_perm _ _)
  rw [h1] at h3
  exact h3.cons_inv
theorem move_there {L L2 : List Win} {f m t e : Int} (h : No7 L) (hr : Rising L) (hr2 : Rising (insW ⟨7, f, m⟩ L)) (hm : MoveAt 40 (insW ⟨7, f, m⟩ L) 7 f t e L2) : (e ≠ 0 ∧ L2 = insW ⟨7, f, m⟩ L) ∨ (e = 0 ∧ L2 = insW ⟨7, t, m⟩ L) := by
  cases hm with
  | none h2 => exact absurd ⟨rfl, rfl⟩ (h2 ⟨7, f, m⟩ ((insW_mem _ _ _).2 (Or.inl rfl)))
  | no i hi hx e he hb => exact Or.inl ⟨he, rfl⟩
  | yes i hi hx hp hf =>
    obtain ⟨h1, h2⟩ := erase_ins h hr hr2 hi hx.1
    rw [h1, h2]
    exact Or.inr ⟨rfl, rfl⟩
theorem move_back {L L3 : List Win} {f m t e : Int} (h : No7 L) (hr : Rising L) (hr2 : Rising (insW ⟨7, t, m⟩ L)) (hp : placeOk 40 7 f m = true) (hf : freeB L f m.toNat = true) (hm : MoveAt 40 (insW ⟨7, t, m⟩ L) 7 t f e L3) : e = 0 ∧ L3 = insW ⟨7, f, m⟩ L := by
  cases hm with
  | none h2 => exact absurd ⟨rfl, rfl⟩ (h2 ⟨7, t, m⟩ ((insW_mem _ _ _).2 (Or.inl rfl)))
  | no i hi hx e he hb =>
    obtain ⟨h1, h2⟩ := erase_ins h hr hr2 hi hx.1
    rw [h1, h2] at hb
    rcases hb with h3 | h3
    · simp only at h3; rw [hp] at h3; cases h3
    · simp only at h3; rw [hf] at h3; cases h3
  | yes i hi hx hp hf =>
    obtain ⟨h1, h2⟩ := erase_ins h hr hr2 hi hx.1
    rw [h1, h2]
    exact ⟨rfl, rfl⟩
theorem rem7 (x : Int) : wrap64 (x.tmod 7) < 7 ∧ x.tmod 7 < 7 := by
  have h1 := Int.tmod_lt_of_pos x (show (0 : Int) < 7 by omega)
  have h2 : -7 < x.tmod 7 := by
    rcases Int.le_total 0 x with h | h
    · have := Int.tmod_nonneg 7 h; omega
    · have h3 := Int.neg_tmod x 7
      have h4 := Int.tmod_lt_of_pos (-x) (show (0 : Int) < 7 by omega)
      omega
  exact ⟨by rw [IntWalk.wrap64_in _ (by omega)]; exact h1, h1⟩

theorem back15 (a : Option Addr) (len cap : Nat) (many tt : Int) (L : Nat → Op4) (w : World) (hA : Ops4 w a len L) (hT : TabAt 0 Lib.deBruijn64tab w) (hm : len ≤ 9223372036854775807) (hL : ∀ i, i < len → I64 (L i).d ∧ I64 (L i).p ∧ I64 (L i).f ∧ I64 (L i).m) (hmn1 : many ≤ 9223372036854775807) :
    Calls Tryd.prog 6 #[.slice a len cap, .int .i64 many, .int .i64 tt] w fun e w' => e = .returned (.bool true) ∧ Below w.heap.size w w' := by
  have HK := Lib.hid hA.kept
  have hTd := tabd_start hT
  have HA := Lib.hid (awake15 w w _ hTd (Sat.start w))
  have HT := Lib.hid hTd
  have HL := Lib.hid hL
  clear hA hT hTd hL
  go_enter Tryd.func6, Tryd.ntmps6
  go_wp2_with (fail)
  refine HA.out.mono ?_
  rintro e w1 ⟨rfl, S0⟩
  go_wp2_with (fail)
  refine (s_slotsnew 40 w w1 _ S0 (by omega) (by omega)).mono ?_
  rintro e w2 ⟨pt, rfl, S1⟩
  by_cases hlen : 30 < len
  · go_wp2_with (fail)
    go_ret
    exact ⟨rfl, Sat.ends (S1.right.emp.perm (star_comm _ _))⟩
  go_wp2_with (fail)
  go_loopw [10] (fun i wr => ∃ k : Nat, k ≤ len ∧ i = .int .i64 k ∧ ∃ M, Hid (No7 M) ∧ Sat w wr (tabP pt 40 M * whole w)) (fun i _ => len - (intOf i).toNat)
  case atStart => exact ⟨0, by omega, rfl, [], Lib.hid (fun x hx => by cases hx), S1⟩
  case round =>
    obtain ⟨k, hk, rfl, M, H7, S2⟩ := hrel
    clear S1 S0
    by_cases hkl : k < len
    · have i1 : (k : Int) < len := by omega
      obtain ⟨ob, off, rfl, hop⟩ := HK.out k hkl
      have q := hop wr _ S2
      have hb := HL.out k hkl
      generalize L k = x at q hb
      obtain ⟨q0, q1, q2, q3⟩ := q
      have hmx := hb.2.2.2.2
      have S3 := S2.drew
      have m1 : ∀ z : Wc (fun w' => wr.drew = w'), z.w.cell? ⟨ob, off + k * 4 + 1, none⟩ = some (.int .i64 x.p) := fun z => by rw [← z.h]; exact q1
      have m3 : ∀ z : Wc (fun w' => wr.drew = w'), z.w.cell? ⟨ob, off + k * 4 + 3, none⟩ = some (.int .i64 x.m) := fun z => by rw [← z.h]; exact q3
      clear hop q0 q1 q2 q3 hb
      go_wp2_with (fail)
      (refine region_tail (fun w' => wr.drew = w') 12 (by kernel_rfl) (by kernel_rfl) (rfl) ?_; intro _; simp only [List.take_succ_cons, List.take_zero, List.drop_succ_cons, List.drop_zero]; (repeat (first | go_big_quiet_step ((fail)) | quiet_step ((fail)))); refine wpQuiet_nil ?_; intro wz hz)
      subst hz
      clear m1 m3
      go_wp2_with (fail)
      refine (s_ins pt 40 M _ x.m w _ _ HT.out S3 hmx).mono ?_
      rintro e w4 ⟨f, kk, L', hi, rfl, S4⟩
      have h7 := no7_ins H7.out (by first | exact (rem7 _).1 | exact (rem7 _).2) hi
      have H7' := Lib.hid h7
      clear hi h7
      go_wp2_with (fail)
      go_roundw
      case rel => exact ⟨k + 1, by omega, by go_num, _, H7', S4⟩
      case measure => simp [intOf]; omega
    · obtain rfl : len = k := by omega
      obtain ⟨S, hok⟩ := S2.tabOk
      have hr := hok.rising
      have HR := Lib.hid hr
      have HLEN := Lib.hid hok.len
      have hc0 := no7_cnt H7.out
      have HC0 : Hid (((cntP 7 M : Nat) : Int) = 0) := Lib.hid (by rw [hc0]; rfl)
      clear hr hok hc0
      obtain ⟨wo, rfl⟩ : ∃ wo : World, wo = wr := ⟨_, rfl⟩
      go_wp2_with (fail)
      refine (s_slots pt 40 M w _ _ S2).mono ?_
      rintro e w3 ⟨va, rfl, hown, hb3⟩
      obtain ⟨QA, aa, capa, rfl, S3, hqa⟩ := wins_part S2 hb3 hown
      have HQA := Lib.hid hqa
      clear hqa hown hb3 S2
      go_wp2_with (fail)
      refine (s_ins pt 40 M 7 many w _ (QA * whole w) (HT.out.star QA) (S3.perm (by ac_rfl)) hmn1).mono ?_
      rintro e w4 ⟨f, kk, L', hi, rfl, S4⟩
      clear S3
      have hcase : (kk ≠ 0 ∧ L' = M) ∨ (kk = 0 ∧ L' = insW ⟨7, f, many⟩ M ∧ placeOk 40 7 f many = true ∧ freeB M f many.toNat = true) := by
        cases hi with
        | bad _ => exact Or.inl ⟨by decide, rfl⟩
        | full _ _ => exact Or.inl ⟨by decide, rfl⟩
        | yes _ hp hf _ => exact Or.inr ⟨rfl, rfl, hp, hf⟩
      clear hi
      rcases hcase with ⟨hk0, hM⟩ | ⟨rfl, rfl, hp, hf⟩
      · obtain rfl : M = L' := hM.symm
        have g1 : (kk == 0) = false := by rw [beq_eq_false_iff_ne]; exact hk0
        have SZ : Sat w w4 (tabP pt 40 M * (QA * whole w)) := S4
        clear hk0 S4
        go_wp2_with (fail)
        refine (s_slots pt 40 M w _ _ SZ).mono ?_
        rintro e wv ⟨va, rfl, hownv, hbv⟩
        obtain ⟨Qb, ab, capb, rfl, SY, hqb⟩ := wins_part SZ hbv hownv
        have HQB := Lib.hid hqb
        have hw1 := HQA.out wv _ (SY.perm (show _ = QA * (Qb * (tabP pt 40 M * whole w)) by ac_rfl))
        have hw2 := HQB.out wv _ SY
        have hsame := same15 aa ab capa capb M M wv hw1 hw2 (by have := HLEN.out; omega)
        have HSM := Lib.hid hsame
        clear hqb hownv hbv hw1 hw2 hsame SZ
        go_wp2_with (fail)
        refine HSM.out.mono ?_
        rintro e wu ⟨bb, rfl, hbb, hbu⟩
        obtain rfl : bb = true := hbb rfl
        have SX := SY.below hbu
        clear hbb hbu SY
        go_wp2_with (fail)
        refine (s_remove pt 40 M 7 w _ (Qb * (QA * whole w)) (SX.perm (by ac_rfl))).mono ?_
        rintro e wt ⟨rfl, SW⟩
        rw [HC0.out]
        go_wp2_with (fail)
        go_ret
        exact ⟨rfl, Sat.ends (SW.right.right.right.emp.perm (star_comm _ _))⟩
      · have HP := Lib.hid hp
        have HF := Lib.hid hf
        obtain ⟨S', hok'⟩ := S4.tabOk
        have HR2 := Lib.hid hok'.rising
        have hat := at_in hok'.ap (x := ⟨7, f, many⟩) ((insW_mem _ _ _).2 (Or.inl rfl)) (t := f) (by have := (placeOk_iff.1 hp).2.1; simp [inW]; omega)
        have HAT := Lib.hid hat
        have hc1 := ins_cnt (f := f) (m := many) H7.out
        have HC1 : Hid (((cntP 7 (insW ⟨7, f, many⟩ M) : Nat) : Int) = 1) := Lib.hid (by rw [hc1]; rfl)
        have HN1 := Lib.hid (ins_notP H7.out HR.out HR2.out)
        clear hp hf hok' hat hc1
        go_wp2_with (fail)
        refine (s_move pt 40 _ 7 f tt w _ _ S4).mono ?_
        rintro e w5 ⟨ge, L2, hmv, rfl, S5⟩
        have hmc := move_there H7.out HR.out HR2.out hmv
        clear hmv S4
        rcases hmc with ⟨hge, rfl⟩ | ⟨rfl, rfl⟩
        · have g1 : (ge == 0) = false := by rw [beq_eq_false_iff_ne]; exact hge
          clear hge
          go_wp2_with (fail)
          refine (s_at pt 40 _ f w _ _ S5).mono ?_
          rintro e w6 ⟨rfl, hb6⟩
          rw [HAT.out]
          have S6 := S5.below hb6
          clear hb6 S5
          go_wp2_with (fail)
          refine (s_remove pt 40 _ 7 w _ _ S6).mono ?_
          rintro e w7 ⟨rfl, S7⟩
          rw [HC1.out]
          rw [HN1.out] at S7
          have SZ := S7
          clear S7 S6
          go_wp2_with (fail)
          refine (s_slots pt 40 M w _ _ SZ).mono ?_
          rintro e wv ⟨va, rfl, hownv, hbv⟩
          obtain ⟨Qb, ab, capb, rfl, SY, hqb⟩ := wins_part SZ hbv hownv
          have HQB := Lib.hid hqb
          have hw1 := HQA.out wv _ (SY.perm (show _ = QA * (Qb * (tabP pt 40 M * whole w)) by ac_rfl))
          have hw2 := HQB.out wv _ SY
          have hsame := same15 aa ab capa capb M M wv hw1 hw2 (by have := HLEN.out; omega)
          have HSM := Lib.hid hsame
          clear hqb hownv hbv hw1 hw2 hsame SZ
          go_wp2_with (fail)
          refine HSM.out.mono ?_
          rintro e wu ⟨bb, rfl, hbb, hbu⟩
          obtain rfl : bb = true := hbb rfl
          have SX := SY.below hbu
          clear hbb hbu SY
          go_wp2_with (fail)
          refine (s_remove pt 40 M 7 w _ (Qb * (QA * whole w)) (SX.perm (by ac_rfl))).mono ?_
          rintro e wt ⟨rfl, SW⟩
          rw [HC0.out]
          go_wp2_with (fail)
          go_ret
          exact ⟨rfl, Sat.ends (SW.right.right.right.emp.perm (star_comm _ _))⟩
        · obtain ⟨S'', hok''⟩ := S5.tabOk
          have HR3 := Lib.hid hok''.rising
          clear hok''
          go_wp2_with (fail)
          refine (s_move pt 40 _ 7 tt f w _ _ S5).mono ?_
          rintro e w5b ⟨ge, L3, hmv, rfl, S5b⟩
          obtain ⟨rfl, rfl⟩ := move_back H7.out HR.out HR3.out HP.out HF.out hmv
          clear hmv S5
          go_wp2_with (fail)
          refine (s_at pt 40 _ f w _ _ S5b).mono ?_
          rintro e w6 ⟨rfl, hb6⟩
          rw [HAT.out]
          have S6 := S5b.below hb6
          clear hb6 S5b
          go_wp2_with (fail)
          refine (s_remove pt 40 _ 7 w _ _ S6).mono ?_
          rintro e w7 ⟨rfl, S7⟩
          rw [HC1.out]
          rw [HN1.out] at S7
          have SZ := S7
          clear S7 S6
          go_wp2_with (fail)
          refine (s_slots pt 40 M w _ _ SZ).mono ?_
          rintro e wv ⟨va, rfl, hownv, hbv⟩
          obtain ⟨Qb, ab, capb, rfl, SY, hqb⟩ := wins_part SZ hbv hownv
          have HQB := Lib.hid hqb
          have hw1 := HQA.out wv _ (SY.perm (show _ = QA * (Qb * (tabP pt 40 M * whole w)) by ac_rfl))
          have hw2 := HQB.out wv _ SY
          have hsame := same15 aa ab capa capb M M wv hw1 hw2 (by have := HLEN.out; omega)
          have HSM := Lib.hid hsame
          clear hqb hownv hbv hw1 hw2 hsame SZ
          go_wp2_with (fail)
          refine HSM.out.mono ?_
          rintro e wu ⟨bb, rfl, hbb, hbu⟩
          obtain rfl : bb = true := hbb rfl
          have SX := SY.below hbu
          clear hbb hbu SY
          go_wp2_with (fail)
          refine (s_remove pt 40 M 7 w _ (Qb * (QA * whole w)) (SX.perm (by ac_rfl))).mono ?_
          rintro e wt ⟨rfl, SW⟩
          rw [HC0.out]
          go_wp2_with (fail)
          go_ret
          exact ⟨rfl, Sat.ends (SW.right.right.right.emp.perm (star_comm _ _))⟩

end Go.Proofs.YtjacbcephokbbaaDoor
