/- SlotsFirst: always true. -/
import Derived.Test.YtjacbcephokbbaaDoorLaw15
namespace Go.Proofs.YtjacbcephokbbaaDoor
set_option linter.unusedSimpArgs false
set_option linter.unusedVariables false
set_option maxRecDepth 100000
open Go.RowKit Go.Shelf
set_option maxHeartbeats 40000000

/-- How far the look for a gap has come: no gap so far, and how many ticks in a row were free last; or the first gap. -/
inductive LookF (L : List Win) (m : Int) (k first run : Int) : Prop
  | on (h1 : first = -1) (h2 : 0 ≤ run) (h3 : run < m) (h4 : run ≤ k) (hf : ∀ t, k - run ≤ t → t < k → occ L t = false) (hb : ∀ f, 0 ≤ f → f < k - run → ∃ t, f ≤ t ∧ t < f + m ∧ occ L t = true)
  | got (h1 : 0 ≤ first) (h2 : first + m ≤ k) (hr : 0 ≤ run) (hr2 : run ≤ k) (hf : ∀ t, first ≤ t → t < first + m → occ L t = false) (hb : ∀ f, 0 ≤ f → f < first → ∃ t, f ≤ t ∧ t < f + m ∧ occ L t = true)
theorem look_occ {L : List Win} {m k run : Int} (hm : 1 ≤ m) (h : LookF L m k (-1) run) (hk : occ L k = true) : LookF L m (k + 1) (-1) 0 := by
  cases h with
  | got h1 _ _ _ _ _ => omega
  | on _ h2 h3 h4 hf hb =>
    refine .on rfl (by omega) (by omega) (by omega) (fun t _ _ => by omega) (fun f h0 h1 => ?_)
    by_cases e : f < k - run
    · exact hb f h0 e
    · exact ⟨k, by omega, by omega, hk⟩
theorem look_on {L : List Win} {m k run : Int} (h : LookF L m k (-1) run) (hk : occ L k = false) (hr : run + 1 ≠ m) : LookF L m (k + 1) (-1) (run + 1) := by
  cases h with
  | got h1 _ _ _ _ _ => omega
  | on _ h2 h3 h4 hf hb =>
    refine .on rfl (by omega) (by omega) (by omega) (fun t h5 h6 => ?_) (fun f h0 h1 => hb f h0 (by omega))
    by_cases e : t = k
    · rw [e]; exact hk
    · exact hf t (by omega) (by omega)
theorem look_got {L : List Win} {m k run : Int} (hk0 : 0 ≤ k) (h : LookF L m k (-1) run) (hk : occ L k = false) (hr : run + 1 = m) : LookF L m (k + 1) (k - m + 1) m := by
  cases h with
  | got h1 _ _ _ _ _ => omega
  | on _ h2 h3 h4 hf hb =>
    refine .got (by omega) (by omega) (by omega) (by omega) (fun t h5 h6 => ?_) (fun f h0 h1 => hb f h0 (by omega))
    by_cases e : t = k
    · rw [e]; exact hk
    · exact hf t (by omega) (by omega)
theorem look_bd {L : List Win} {m k first run : Int} (h : LookF L m k first run) : 0 ≤ run ∧ run ≤ k ∧ (first = -1 ∨ 0 ≤ first) := by
  cases h with
  | on h1 h2 h3 h4 _ _ => exact ⟨h2, h4, Or.inl h1⟩
  | got h1 h2 hr hr2 _ _ => exact ⟨hr, hr2, Or.inr h1⟩
theorem free_no {L : List Win} {f m : Int} (hm : 0 ≤ m) (h : ∃ t, f ≤ t ∧ t < f + m ∧ occ L t = true) : freeB L f m.toNat = false := by
  obtain ⟨t, h1, h2, h3⟩ := h
  cases hf : freeB L f m.toNat with
  | false => rfl
  | true =>
    have := (freeB_iff L f m.toNat).1 hf (t - f).toNat (by omega)
    rw [show f + (((t - f).toNat : Nat) : Int) = t by omega, h3] at this
    cases this
theorem free_yes {L : List Win} {f m : Int} (h : ∀ t, f ≤ t → t < f + m → occ L t = false) : freeB L f m.toNat = true :=
  (freeB_iff L f m.toNat).2 fun i hi => h _ (by omega) (by omega)
theorem first_end {L L' : List Win} {m k first run f e : Int} (hm : 1 ≤ m) (hl : LookF L m k first run) (hk : k = 40 ∨ 0 ≤ first) (hk2 : k ≤ 40) (hi : InsAt 40 L 7 m f e L') :
    (first = -1 ∧ f = 0 ∧ e = 8) ∨ (0 ≤ first ∧ f = first ∧ e = 0 ∧ L' = insW ⟨7, first, m⟩ L ∧ first + m ≤ 40) := by
  cases hi with
  | bad h => exact absurd ⟨by decide, hm⟩ h
  | full hp h =>
    cases hl with
    | on h1 _ _ _ _ _ => exact Or.inl ⟨h1, rfl, rfl⟩
    | got h1 h2 _ _ hf _ =>
      have := h first h1 (by omega)
      rw [free_yes hf] at this
      cases this
  | yes _ hp hf h =>
    obtain ⟨_, _, _, h0, h1⟩ := placeOk_iff.1 hp
    cases hl with
    | on h2 h3 h4 h5 _ hb =>
      have hk' : k = 40 := by omega
      have := free_no (by omega) (hb f h0 (by omega))
      rw [hf] at this
      cases this
    | got h2 h3 _ _ h4 hb =>
      have e1 : ¬ f < first := fun hlt => by
        have := free_no (by omega) (hb f h0 hlt)
        rw [hf] at this
        cases this
      have e2 : ¬ first < f := fun hlt => by
        have := h first h2 hlt
        rw [free_yes h4] at this
        cases this
      have : f = first := by omega
      subst this
      exact Or.inr ⟨h2, rfl, rfl, rfl, by omega⟩

theorem first15 (a : Option Addr) (len cap : Nat) (many : Int) (L : Nat → Op4) (w : World) (hA : Ops4 w a len L) (hT : TabAt 0 Lib.deBruijn64tab w) (hm : len ≤ 9223372036854775807) :
    Calls Tryd.prog 3 #[.slice a len cap, .int .i64 many] w fun e w' => e = .returned (.bool true) ∧ Below w.heap.size w w' := by
  have HK := Lib.hid hA.kept
  have hTd := tabd_start hT
  have HA := Lib.hid (awake15 w w _ hTd (Sat.start w))
  have HT := Lib.hid hTd
  clear hA hT hTd
  go_enter Tryd.func3, Tryd.ntmps3
  go_wp2_with (fail)
  refine HA.out.mono ?_
  rintro e w1 ⟨rfl, S0⟩
  go_wp2_with (fail)
  refine (s_slotsnew 40 w w1 _ S0 (by omega) (by omega)).mono ?_
  rintro e w2 ⟨pt, rfl, S1⟩
  by_cases hlen : 40 < len
  · go_wp2_with (fail)
    go_ret
    exact ⟨rfl, Sat.ends (S1.right.emp.perm (star_comm _ _))⟩
  by_cases hmany : many < 1
  · go_wp2_with (fail)
    go_ret
    exact ⟨rfl, Sat.ends (S1.right.emp.perm (star_comm _ _))⟩
  by_cases hmany2 : 50 < many
  · go_wp2_with (fail)
    go_ret
    exact ⟨rfl, Sat.ends (S1.right.emp.perm (star_comm _ _))⟩
  go_wp2_with (fail)
  go_loopw [8] (fun i wr => ∃ k : Nat, k ≤ len ∧ i = .int .i64 k ∧ ∃ M, Sat w wr (tabP pt 40 M * whole w)) (fun i _ => len - (intOf i).toNat)
  case atStart => exact ⟨0, by omega, rfl, _, S1⟩
  case round =>
    obtain ⟨k, hk, rfl, M, S2⟩ := hrel
    clear S1 S0
    by_cases hkl : k < len
    · have i1 : (k : Int) < len := by omega
      obtain ⟨ob, off, rfl, hop⟩ := HK.out k hkl
      have q := hop wr _ S2
      generalize L k = x at q
      obtain ⟨q0, q1, q2, q3⟩ := q
      have S3 := S2.drew
      have m1 : ∀ z : Wc (fun w' => wr.drew = w'), z.w.cell? ⟨ob, off + k * 4 + 1, none⟩ = some (.int .i64 x.p) := fun z => by rw [← z.h]; exact q1
      have m2 : ∀ z : Wc (fun w' => wr.drew = w'), z.w.cell? ⟨ob, off + k * 4 + 2, none⟩ = some (.int .i64 x.f) := fun z => by rw [← z.h]; exact q2
      have m3 : ∀ z : Wc (fun w' => wr.drew = w'), z.w.cell? ⟨ob, off + k * 4 + 3, none⟩ = some (.int .i64 x.m) := fun z => by rw [← z.h]; exact q3
      clear hop q0 q1 q2 q3
      go_wp2_with (fail)
      (refine region_tail (fun w' => wr.drew = w') 16 (by kernel_rfl) (by kernel_rfl) (rfl) ?_; intro _; simp only [List.take_succ_cons, List.take_zero, List.drop_succ_cons, List.drop_zero]; (repeat (first | go_big_quiet_step ((fail)) | quiet_step ((fail)))); refine wpQuiet_nil ?_; intro wz hz)
      subst hz
      clear m1 m2 m3
      go_wp2_with (fail)
      refine (s_place pt 40 M x.p x.f x.m w _ _ S3).mono ?_
      rintro e w4 ⟨rfl, S4⟩
      go_wp2_with (fail)
      go_roundw
      case rel => exact ⟨k + 1, by omega, by go_num, _, S4⟩
      case measure => simp [intOf]; omega
    · obtain rfl : len = k := by omega
      obtain ⟨S, hok⟩ := S2.tabOk
      have hpos : ∀ x ∈ M, 0 ≤ x.p := fun x hx => (hok.bd x hx).1
      have HP := Lib.hid hpos
      have HOK := Lib.hid hok
      clear hpos hok
      obtain ⟨wo, rfl⟩ : ∃ wo : World, wo = wr := ⟨_, rfl⟩
      have hl0 : LookF M many 0 (-1) 0 := .on rfl (by omega) (by omega) (by omega) (fun t _ _ => by omega) (fun f _ _ => by omega)
      have HL0 := Lib.hid hl0
      clear hl0
      go_wp2_with (fail)
      go_loopw [9, 10, 11] (fun s9 s10 s11 wr => ∃ (first run : Int) (k : Nat), k ≤ 40 ∧ s9 = .int .i64 first ∧ s10 = .int .i64 run ∧ s11 = .int .i64 k ∧ Hid (LookF M many k first run) ∧ Sat w wr (tabP pt 40 M * whole w)) (fun _ _ s11 _ => 40 - (intOf s11).toNat)
      case atStart => exact ⟨-1, 0, 0, by omega, rfl, rfl, rfl, HL0, S2⟩
      case round =>
        obtain ⟨first, run, k, hk, rfl, rfl, rfl, HL, S5⟩ := hrel
        clear S2
        obtain ⟨r0, r1, hfr⟩ := look_bd HL.out
        by_cases hgo : k < 40 ∧ first = -1
        · obtain ⟨hk40, rfl⟩ := hgo
          have i1 : (k : Int) < 40 := by omega
          have hat := s_at pt 40 M k w wr _ S5
          clear hfr
          cases ho : occ M k with
          | true =>
            obtain ⟨x, hx, _, hxp⟩ := at_yes ho
            have h0 := HP.out x hx
            rw [hxp] at hat
            have HAT := Lib.hid hat
            have hn : LookF M many ((k + 1 : Nat) : Int) (-1) 0 := by
              have := look_occ (by omega) HL.out ho
              rwa [show ((k : Int) + 1) = ((k + 1 : Nat) : Int) by omega] at this
            have HN := Lib.hid hn
            generalize x.p = xp at HAT h0
            have g1 : decide (0 ≤ xp) = true := decide_eq_true h0
            have g2 : ((0 : Int) == many) = false := by rw [beq_eq_false_iff_ne]; omega
            clear hat hn hx hxp ho HL
            go_wp2_with (fail)
            refine HAT.out.mono ?_
            rintro e w6 ⟨rfl, hb6⟩
            have S6 := S5.below hb6
            clear hb6 S5
            go_wp2_with (fail)
            go_roundw
            case rel => exact ⟨-1, 0, k + 1, by omega, rfl, rfl, by go_num, HN, S6⟩
            case measure => simp [intOf]; omega
          | false =>
            rw [at_no ho] at hat
            have HAT := Lib.hid hat
            by_cases hr : run + 1 = many
            · have hn : LookF M many ((k + 1 : Nat) : Int) (k - many + 1) many := by
                have := look_got (by omega) HL.out ho hr
                rwa [show ((k : Int) + 1) = ((k + 1 : Nat) : Int) by omega] at this
              have HN := Lib.hid hn
              have g2 : (run + 1 == many) = true := by simp [hr]
              have HR := Lib.hid hr
              clear hat hn ho HL hr
              go_wp2_with (fail)
              refine HAT.out.mono ?_
              rintro e w6 ⟨rfl, hb6⟩
              have S6 := S5.below hb6
              clear hb6 S5
              go_wp2_with (fail)
              go_roundw
              case rel => exact ⟨k - many + 1, run + 1, k + 1, by omega, rfl, rfl, by go_num, by rw [HR.out]; exact HN, S6⟩
              case measure => simp [intOf]; omega
            · have hn : LookF M many ((k + 1 : Nat) : Int) (-1) (run + 1) := by
                have := look_on HL.out ho hr
                rwa [show ((k : Int) + 1) = ((k + 1 : Nat) : Int) by omega] at this
              have HN := Lib.hid hn
              have g2 : (run + 1 == many) = false := by rw [beq_eq_false_iff_ne]; exact hr
              clear hat hn ho HL hr
              go_wp2_with (fail)
              refine HAT.out.mono ?_
              rintro e w6 ⟨rfl, hb6⟩
              have S6 := S5.below hb6
              clear hb6 S5
              go_wp2_with (fail)
              go_roundw
              case rel => exact ⟨-1, run + 1, k + 1, by omega, rfl, rfl, by go_num, HN, S6⟩
              case measure => simp [intOf]; omega
        · have hk' : (k : Int) = 40 ∨ 0 ≤ first := by omega
          have hins := s_ins pt 40 M 7 many w wr _ HT.out S5 (by omega)
          have HI := Lib.hid hins
          have HE : Hid (∀ f e L', InsAt 40 M 7 many f e L' → (first = -1 ∧ f = 0 ∧ e = 8) ∨ (0 ≤ first ∧ f = first ∧ e = 0 ∧ L' = insW ⟨7, first, many⟩ M ∧ first + many ≤ 40)) := Lib.hid fun f e L' hi => first_end (by omega) HL.out hk' (by omega) hi
          clear hins hk' HL r0 r1
          by_cases hk40 : k < 40
          · have h0 : 0 ≤ first := by omega
            clear hgo hfr
            go_wp2_with (fail)
            refine HI.out.mono ?_
            rintro e w6 ⟨f, kk, L', hi, rfl, S6⟩
            rcases HE.out f kk L' hi with ⟨h1, _, _⟩ | ⟨_, rfl, rfl, rfl, h5⟩
            · omega
            clear hi HE HI S5
            obtain ⟨S', hok'⟩ := S6.tabOk
            have hin : (⟨7, f, many⟩ : Win) ∈ insW ⟨7, f, many⟩ M := (insW_mem _ _ _).2 (Or.inl rfl)
            have hat1 := at_in hok'.ap hin (t := f) (by simp [inW]; omega)
            have hat2 := at_in hok'.ap hin (t := f + many - 1) (by simp [inW]; omega)
            have HA1 := Lib.hid hat1
            have HA2 := Lib.hid hat2
            clear hat1 hat2 hin hok'
            go_wp2_with (fail)
            refine (s_at pt 40 _ f w _ _ S6).mono ?_
            rintro e w7 ⟨rfl, hb7⟩
            rw [HA1.out]
            have S7 := S6.below hb7
            clear hb7 S6
            go_wp2_with (fail)
            refine (s_at pt 40 _ (f + many - 1) w _ _ S7).mono ?_
            rintro e w8 ⟨rfl, hb8⟩
            rw [HA2.out]
            have S8 := S7.below hb8
            clear hb8 S7
            go_wp2_with (fail)
            go_ret
            exact ⟨rfl, Sat.ends (S8.right.emp.perm (star_comm _ _))⟩
          · obtain rfl : k = 40 := by omega
            clear hgo
            rcases hfr with rfl | h0
            · go_wp2_with (fail)
              refine HI.out.mono ?_
              rintro e w6 ⟨f, kk, L', hi, rfl, S6⟩
              rcases HE.out f kk L' hi with ⟨_, rfl, rfl⟩ | ⟨h1, _⟩
              · clear hi HE HI S5
                go_wp2_with (fail)
                go_ret
                exact ⟨rfl, Sat.ends (S6.right.emp.perm (star_comm _ _))⟩
              · omega
            · go_wp2_with (fail)
              refine HI.out.mono ?_
              rintro e w6 ⟨f, kk, L', hi, rfl, S6⟩
              rcases HE.out f kk L' hi with ⟨h1, _, _⟩ | ⟨_, rfl, rfl, rfl, h5⟩
              · omega
              clear hi HE HI S5
              obtain ⟨S', hok'⟩ := S6.tabOk
              have hin : (⟨7, f, many⟩ : Win) ∈ insW ⟨7, f, many⟩ M := (insW_mem _ _ _).2 (Or.inl rfl)
              have hat1 := at_in hok'.ap hin (t := f) (by simp [inW]; omega)
              have hat2 := at_in hok'.ap hin (t := f + many - 1) (by simp [inW]; omega)
              have HA1 := Lib.hid hat1
              have HA2 := Lib.hid hat2
              clear hat1 hat2 hin hok'
              go_wp2_with (fail)
              refine (s_at pt 40 _ f w _ _ S6).mono ?_
              rintro e w7 ⟨rfl, hb7⟩
              rw [HA1.out]
              have S7 := S6.below hb7
              clear hb7 S6
              go_wp2_with (fail)
              refine (s_at pt 40 _ (f + many - 1) w _ _ S7).mono ?_
              rintro e w8 ⟨rfl, hb8⟩
              rw [HA2.out]
              have S8 := S7.below hb8
              clear hb8 S7
              go_wp2_with (fail)
              go_ret
              exact ⟨rfl, Sat.ends (S8.right.emp.perm (star_comm _ _))⟩

end Go.Proofs.YtjacbcephokbbaaDoor
