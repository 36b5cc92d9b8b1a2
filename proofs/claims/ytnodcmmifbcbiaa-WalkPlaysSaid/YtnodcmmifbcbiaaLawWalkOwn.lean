/- WalkOwn returns true, by a walk over its text. -/
import Derived.Test.YtnodcmmifbcbiaaOps07
namespace Go.Proofs.Ytnodcmmifbcbiaa
set_option linter.unusedSimpArgs false
set_option linter.unusedVariables false
open Go.RowKit
set_option maxHeartbeats 4000000

theorem walkOwn_long (a : Option Addr) (len cap : Nat) (p : Int) (w : World) (hlen : 60 < len) (hm : len ≤ 9223372036854775807) :
    Calls Try.prog 9 #[.slice a len cap, .int .i64 p] w fun e w' => e = .returned (.bool true) ∧ Below w.heap.size w w' := by
  go_enter Try.func9, Try.ntmps9
  go_wp2_with (fail)
  refine (awake07 _).mono ?_
  rintro e w1 ⟨rfl, hb1⟩
  go_wp2_with (fail)
  refine (new_yes _ _ (by omega) (by omega)).mono ?_
  rintro e w2 ⟨pm, bk, rfl, hm2, hpm, hbk, hb2⟩
  go_wp2_with (fail)
  go_ret
  exact ⟨rfl, hb1.trans (hb2.mono hb1.size)⟩

theorem steps_arg {w : World} {base e n : Nat} {v : Value} {l : List (Int × Int)} (h : w.ownsRow base e 2 v n (wCells l)) (hn : n = l.length) :
    ∃ a cap, v = .slice a n cap ∧ StepsArg w a n l ∧ (∀ g, a = some ⟨g, 0, none⟩ → base ≤ g) := by
  by_cases h0 : 0 < n
  · obtain ⟨g, cap, rfl, hg, hgs, hc⟩ := own_steps h hn h0
    exact ⟨_, cap, rfl, ⟨hn, Or.inr ⟨g, rfl, hgs, hc⟩⟩, fun g' h' => by cases h'; exact hg⟩
  · obtain ⟨a, cap, rfl⟩ := own_len h
    refine ⟨a, cap, rfl, ⟨hn, Or.inl (by omega)⟩, fun g' h' => ?_⟩
    subst h'
    rcases h.2 with ⟨h1, _⟩ | ⟨g, cap', cur, h1, hg, _⟩
    · cases h1
    · simp at h1; omega

set_option maxRecDepth 100000 in
theorem walkOwn_walk (a : Option Addr) (len cap : Nat) (L : Nat → Op7) (p : Int) (w : World) (hl : OpsArg w a len L) (hlen : len ≤ 60) :
    Calls Try.prog 9 #[.slice a len cap, .int .i64 p] w fun e w' => e = .returned (.bool true) ∧ Below w.heap.size w w' := by
  go_enter Try.func9, Try.ntmps9
  go_wp2_with (fail)
  refine (awake07 _).mono ?_
  rintro e w1 ⟨rfl, hb1⟩
  go_wp2_with (fail)
  refine (new_yes _ _ (by omega) (by omega)).mono ?_
  rintro e w2 ⟨pm, bk, rfl, hm2', hpm, hbk, hb2⟩
  have hm2 : MemIn w2 pm bk 4 Z0 := hm2'
  clear hm2'
  have k2 := hb1.trans (hb2.mono hb1.size)
  go_wp2_with (fail)
  refine (tables_any pm bk _ _ _ hm2).mono ?_
  rintro e w3 ⟨rfl, hm3, ht3⟩
  have hb3 : Below w.heap.size w2 w3 := ht3.below k2.size (fun k hk => by have := k2.size; have := hb1.size; omega)
  have k3 := k2.trans hb3
  obtain ⟨V, hV⟩ : ∃ V, V = tabW Z0 4 := ⟨_, rfl⟩
  rw [← hV] at hm3
  clear hV
  have hbw : w.heap.size ≤ bk := by have := hb1.size; omega
  obtain ⟨R, hR⟩ : ∃ R, R = walkM V 4 0 p := ⟨_, rfl⟩
  have HR := Lib.hid hR
  clear hR
  go_wp2_with (fail)
  refine (walk_any pm bk _ _ _ _ _ hm3 R HR.out.symm).mono ?_
  rintro e w5 ⟨sv, rfl, ho5, hb5⟩
  have hm5 := hm3.below hb5
  have k5 := k3.trans (hb5.mono k3.size)
  obtain ⟨sa, scap, rfl, hsa, hsg⟩ := steps_arg ho5 rfl
  obtain ⟨n, hn⟩ : ∃ n, n = R.st.length := ⟨_, rfl⟩
  rw [← hn] at hsa ⊢
  have hn3 : n ≤ 3 := by
    rw [hn, HR.out]; unfold walkM; split
    · exact (walkL_st V 4 p 3 0).1
    · simp
  have HN := Lib.hid hn
  clear hn
  obtain ⟨w6, hw6⟩ : ∃ w6, w6 = w5.alloc (.cells #[.bool R.v, .bool R.wr, .bool R.tb, .int .i64 R.fr] 34) := ⟨_, rfl⟩
  have k56 : Below w5.heap.size w5 w6 := by rw [hw6]; exact (Below.refl _ _).alloc (Nat.le_refl _) _
  have z6 : w5.heap.size < w6.heap.size := by rw [hw6]; simp
  have e0 : w6.cell? ⟨w5.heap.size, 0, none⟩ = some (.bool R.v) := by rw [hw6]; simp [go_sem]
  have e1 : w6.cell? ⟨w5.heap.size, 1, none⟩ = some (.bool R.wr) := by rw [hw6]; simp [go_sem]
  have e2 : w6.cell? ⟨w5.heap.size, 2, none⟩ = some (.bool R.tb) := by rw [hw6]; simp [go_sem]
  have e3 : w6.cell? ⟨w5.heap.size, 3, none⟩ = some (.int .i64 R.fr) := by rw [hw6]; simp [go_sem]
  have hm6 : MemIn w6 pm bk 4 V := hm5.below k56
  have k6 := k5.trans (k56.mono k5.size)
  have hb35 := hb5.size
  have hbk3 := hm3.bk_lt
  go_wp2_with (fail)
  rw [← hw6]
  clear hw6
  go_loopw [11] (fun i wr => ∃ k : Nat, k ≤ len ∧ i = .int .i64 k ∧ MemIn wr pm bk 4 (putsO V R.st L k) ∧ Touch (· = bk) w6 wr) (fun i _ => len - (intOf i).toNat)
  case atStart => exact ⟨0, by omega, rfl, hm6, Touch.refl _ _⟩
  case round =>
    obtain ⟨k, hk, rfl, hmr, htr⟩ := hrel
    have htb : Below w.heap.size w6 wr := htr.below k6.size (fun j hj => by omega)
    have kr := k6.trans htb
    by_cases hlt : k < len
    · rcases hl with h0 | ⟨b, off, rfl, hbl, hops⟩
      · omega
      obtain ⟨o0, o1, o2, o3, o4, o5, _, _⟩ := (hops.below kr hbl) k hlt
      have hbr : b < wr.heap.size := by have := kr.size; omega
      go_wp2_with (fail)
      go_loopw [12, 13] (fun ov jv wi => ∃ (j : Nat) (ob : Bool) (q : Nat), j ≤ n ∧ jv = .int .i64 j ∧ ov = .bool ob ∧ Hid (ob = ownB (R.st.take j) (L k)) ∧ wi = wr.drewN q) (fun _ jv _ => n - (intOf jv).toNat)
      case atStart => exact ⟨0, false, 0, by omega, rfl, rfl, rfl, rfl⟩
      case round =>
        obtain ⟨j, ob, q, hj, rfl, rfl, HO, rfl⟩ := hrel
        by_cases hjn : j < n
        · rcases hsa.2 with hs0 | ⟨g, rfl, hg5, hcs⟩
          · omega
          have hgb := hsg g rfl
          have hgbk : ¬ g = bk := by omega
          have hjl : j < R.st.length := by have := HN.out; omega
          obtain ⟨s0, s1⟩ := hcs j hjl
          have hot := ownB_take R.st (L k) j hjl
          generalize R.st[j] = X at s0 s1 hot
          have s0 := keepT htr (by omega) hgbk (keep k56 hg5 s0)
          have s1 := keepT htr (by omega) hgbk (keep k56 hg5 s1)
          rw [← HO.out] at hot
          have HT := Lib.hid hot
          clear hot
          cases ob
          · by_cases hx : X.1 = (L k).f
            · have hxb : (X.1 == (L k).f) = true := by simp [hx]
              have hT2 := HT.out
              rw [hxb] at hT2
              have HT2 := Lib.hid hT2
              have hxx := Lib.hid hx
              clear hT2 hx HT
              go_wp2_with (fail)
              go_quiet (fail)
              go_wp2_with (fail)
              go_roundw
              case rel => exact ⟨j + 1, (X.2 == (L k).p), _, by omega, by go_num, rfl, by show _ = _; rw [HT2.out]; simp, rfl⟩
              case measure => simp [intOf]; omega
            · have hxb : (X.1 == (L k).f) = false := by simp [hx]
              have hT2 := HT.out
              rw [hxb] at hT2
              have HT2 := Lib.hid hT2
              clear hT2 hx HT
              go_wp2_with (fail)
              go_quiet (fail)
              go_wp2_with (fail)
              go_roundw
              case rel => exact ⟨j + 1, false, _, by omega, by go_num, rfl, by show _ = _; rw [HT2.out]; simp, rfl⟩
              case measure => simp [intOf]; omega
          · go_wp2_with (fail)
            go_quiet (fail)
            go_wp2_with (fail)
            go_roundw
            case rel => exact ⟨j + 1, true, _, by omega, by go_num, rfl, by show _ = _; rw [HT.out]; simp, rfl⟩
            case measure => simp [intOf]; omega
        · have hjn' : j = n := by omega
          have hob : ob = ownB R.st (L k) := by rw [HO.out, hjn', HN.out, List.take_length]
          have hmq : MemIn (wr.drewN q) pm bk 4 (putsO V R.st L k) := hmr.below (below_drewN (Below.refl _ _) _)
          subst hjn'
          cases ob
          · have hW : putsO V R.st L (k + 1) = putW (putsO V R.st L k) 4 (L k).f (L k).p (L k).v (L k).wr (L k).tb (L k).fr := by
              show (if ownB R.st (L k) then _ else _) = _
              rw [← hob]; rfl
            have HW := Lib.hid hW
            clear hW hob HO
            go_wp2_with (fail)
            obtain ⟨wq, hwq⟩ : ∃ wq, wq = wr.drewN q := ⟨_, rfl⟩
            rw [← hwq] at hmq ⊢
            have o0 := drewN_cell q o0
            have o1 := drewN_cell q o1
            have o2 := drewN_cell q o2
            have o3 := drewN_cell q o3
            have o4 := drewN_cell q o4
            have o5 := drewN_cell q o5
            rw [← hwq] at o0 o1 o2 o3 o4 o5
            have htq : Touch (· = bk) w6 wq := by rw [hwq]; exact htr.drewN _
            have hbq : b < wq.heap.size := by rw [hwq]; simpa using hbr
            clear hwq
            go_still_tail 16, (by kernel_rfl)
            change wpList _ _ _ _ _ wq.drew
            go_wp2_with (fail)
            refine (put_any pm bk _ _ _ _ _ _ _ _ _ (hmq.below (Below.refl _ _).drew)).mono ?_
            rintro e w7 ⟨rfl, hm7, ht7⟩
            rw [← HW.out] at hm7
            go_wp2_with (fail)
            go_roundw
            case rel => exact ⟨k + 1, by omega, by go_num, hm7, htq.drew.trans ht7⟩
            case measure => simp [intOf]; omega
          · have hW : putsO V R.st L (k + 1) = putsO V R.st L k := by
              show (if ownB R.st (L k) then _ else _) = _
              rw [← hob]; rfl
            have HW := Lib.hid hW
            clear hW hob HO
            go_wp2_with (fail)
            go_roundw
            case rel => exact ⟨k + 1, by omega, by go_num, by rw [HW.out]; exact hmq, htr.drewN _⟩
            case measure => simp [intOf]; omega
    · have hkl : k = len := by omega
      have hmE : Hid (walkM (putsO V R.st L k) 4 0 p = R) := by
        show _ = _
        have := walkM_own V L p k
        rw [← HR.out] at this
        exact this
      go_wp2_with (fail)
      refine (walk_any pm bk _ _ _ _ _ hmr R hmE.out).mono ?_
      rintro e w8 ⟨tv, rfl, ho8, hb8⟩
      obtain ⟨ta, tcap, rfl, hta, htg⟩ := steps_arg ho8 rfl
      rw [← HN.out] at hta ⊢
      have ne5 : ¬ w5.heap.size = bk := by omega
      have k8 := kr.trans (hb8.mono kr.size)
      have hs8 := hb8.size
      have hsr := htr.size
      have e0 := keep hb8 (by omega) (keepT htr (by omega) ne5 e0)
      have e1 := keep hb8 (by omega) (keepT htr (by omega) ne5 e1)
      have e2 := keep hb8 (by omega) (keepT htr (by omega) ne5 e2)
      have e3 := keep hb8 (by omega) (keepT htr (by omega) ne5 e3)
      have z8 : w5.heap.size < w8.heap.size := by omega
      go_wp2_with (fail)
      obtain ⟨w9, hw9⟩ : ∃ w9, w9 = w8.alloc (.cells #[.bool R.v, .bool R.wr, .bool R.tb, .int .i64 R.fr] 34) := ⟨_, rfl⟩
      have k89 : Below w8.heap.size w8 w9 := by rw [hw9]; exact (Below.refl _ _).alloc (Nat.le_refl _) _
      rw [← hw9]
      clear hw9
      have k9 := k8.trans (k89.mono k8.size)
      have hs9 := k89.size
      go_loopw [17] (fun i wx => ∃ j : Nat, j ≤ n ∧ i = .int .i64 j ∧ Below w9.heap.size w9 wx) (fun i _ => n - (intOf i).toNat)
      case atStart => exact ⟨0, by omega, rfl, Below.refl _ _⟩
      case round =>
        obtain ⟨j, hj, rfl, hbx⟩ := hrel
        by_cases hjn : j < n
        · rcases hsa.2 with hs0 | ⟨g, rfl, hg5, hcs⟩
          · omega
          rcases hta.2 with hs0 | ⟨tg, rfl, htg8, hct⟩
          · omega
          have hgb := hsg g rfl
          have hgbk : ¬ g = bk := by omega
          have hjl : j < R.st.length := by have := HN.out; omega
          obtain ⟨s0, s1⟩ := hcs j hjl
          obtain ⟨t0, t1⟩ := hct j hjl
          have hin : 0 ≤ p ∧ p < 4096 := by
            have h := HR.out
            unfold walkM at h
            split at h
            · rename_i h'; exact h'.2
            · rw [h] at hjl; simp at hjl
          have hpl : Hid ((R.st[j]).2 = idxI p j) := by
            have h := HR.out
            unfold walkM at h
            rw [if_pos ⟨⟨by omega, by omega⟩, hin.1, hin.2⟩] at h
            subst h
            have := walkL_place V 4 p 3 0 j hjl
            show _ = _
            rw [this]
            congr 1
            omega
          generalize R.st[j] = X at s0 s1 t0 t1 hpl
          have hsx := hbx.size
          have gw8 : g < w8.heap.size := by omega
          have s0 := keep hbx (by omega) (keep k89 gw8 (keep hb8 (by omega) (keepT htr (by omega) hgbk (keep k56 hg5 s0))))
          have s1 := keep hbx (by omega) (keep k89 gw8 (keep hb8 (by omega) (keepT htr (by omega) hgbk (keep k56 hg5 s1))))
          have t0 := keep hbx (by omega) (keep k89 htg8 t0)
          have t1 := keep hbx (by omega) (keep k89 htg8 t1)
          go_wp2_with (fail)
          rw [hpl.out] at s1 t1
          go_quiet (fail)
          go_wp2_with (fail)
          refine (index_yes _ _ _ hin.1 hin.2 (by omega) (by omega)).mono ?_
          rintro e wz ⟨rfl, rfl⟩
          go_wp2_with (fail)
          go_roundw
          case rel => exact ⟨j + 1, by omega, by go_num, by first | exact below_drewN hbx _ | exact below_drewN (below_drewN hbx _) _⟩
          case measure => simp [intOf]; omega
        · have hjn' : j = n := by omega
          subst hjn'
          go_wp2_with (fail)
          go_ret
          exact ⟨rfl, k9.trans (hbx.mono k9.size)⟩

end Go.Proofs.Ytnodcmmifbcbiaa
