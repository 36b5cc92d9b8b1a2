/- WalkSteps returns true, by a walk over its text. -/
import Derived.Test.YtnodcmmifbcbiaaOps07
namespace Go.Proofs.Ytnodcmmifbcbiaa
set_option linter.unusedSimpArgs false
set_option linter.unusedVariables false
open Go.RowKit
set_option maxHeartbeats 4000000

theorem walkSteps_long (a : Option Addr) (len cap : Nat) (p : Int) (w : World) (hlen : 60 < len) (hm : len ≤ 9223372036854775807) :
    Calls Try.prog 11 #[.slice a len cap, .int .i64 p] w fun e w' => e = .returned (.bool true) ∧ Below w.heap.size w w' := by
  go_enter Try.func11, Try.ntmps11
  go_wp2_with (fail)
  refine (awake07 _).mono ?_
  rintro e w1 ⟨rfl, hb1⟩
  go_wp2_with (fail)
  refine (new_yes _ _ (by omega) (by omega)).mono ?_
  rintro e w2 ⟨pm, bk, rfl, hm2, hpm, hbk, hb2⟩
  go_wp2_with (fail)
  go_ret
  exact ⟨rfl, hb1.trans (hb2.mono hb1.size)⟩

set_option maxRecDepth 100000 in
theorem walkSteps_walk (a : Option Addr) (len cap : Nat) (L : Nat → Op7) (p : Int) (w : World) (hl : OpsArg w a len L) (hlen : len ≤ 60) :
    Calls Try.prog 11 #[.slice a len cap, .int .i64 p] w fun e w' => e = .returned (.bool true) ∧ Below w.heap.size w w' := by
  go_enter Try.func11, Try.ntmps11
  go_wp2_with (fail)
  refine (awake07 _).mono ?_
  rintro e w1 ⟨rfl, hb1⟩
  go_wp2_with (fail)
  refine (new_yes _ _ (by omega) (by omega)).mono ?_
  rintro e w2 ⟨pm, bk, rfl, hm2', hpm, hbk, hb2⟩
  have hm2 : MemIn w2 pm bk 4 Z0 := hm2'
  clear hm2'
  have k2 := hb1.trans (hb2.mono hb1.size)
  go_wp2_with (fail)
  refine (tables_any pm bk _ _ _ hm2).mono ?_
  rintro e w3 ⟨rfl, hm3, ht3⟩
  have hb3 : Below w.heap.size w2 w3 := ht3.below k2.size (fun k hk => by have := k2.size; have := hb1.size; omega)
  have k3 := k2.trans hb3
  obtain ⟨V, hV⟩ : ∃ V, V = tabW Z0 4 := ⟨_, rfl⟩
  rw [← hV] at hm3
  have HV := Lib.hid hV
  clear hV
  have hbw : w.heap.size ≤ bk := by have := hb1.size; omega
  go_wp2_with (fail)
  go_loopw [8] (fun i wr => ∃ k : Nat, k ≤ len ∧ i = .int .i64 k ∧ MemIn wr pm bk 4 (putsW V L k) ∧ Below w.heap.size w wr) (fun i _ => len - (intOf i).toNat)
  case atStart => exact ⟨0, by omega, rfl, hm3, k3⟩
  case round =>
    obtain ⟨k, hk, rfl, hmr, hbr⟩ := hrel
    by_cases hlt : k < len
    · rcases hl with h0 | ⟨b, off, rfl, hbl, hops⟩
      · omega
      obtain ⟨o0, o1, o2, o3, o4, o5, _, _⟩ := (hops.below hbr hbl) k hlt
      go_wp2_with (fail)
      go_still_tail 16, (by kernel_rfl)
      change wpList _ _ _ _ _ wr.drew
      go_wp2_with (fail)
      refine (put_any pm bk _ _ _ _ _ _ _ _ _ (hmr.below (Below.refl _ _).drew)).mono ?_
      rintro e w4 ⟨rfl, hm4, ht4⟩
      have hb4 : Below w.heap.size wr.drew w4 := ht4.below hbr.size (fun j hj => by omega)
      go_wp2_with (fail)
      go_roundw
      case rel => exact ⟨k + 1, by omega, by go_num, hm4, hbr.drew.trans hb4⟩
      case measure => simp [intOf]; omega
    · have hkl : k = len := by omega
      subst hkl
      obtain ⟨V', hV'⟩ : ∃ V', V' = putsW V L k := ⟨_, rfl⟩
      rw [← hV'] at hmr
      have hfine : Fine V' := by rw [hV', HV.out]; exact fine_puts (fine_tab fine_Z0 4) L k
      clear hV'
      obtain ⟨R, hR⟩ : ∃ R, R = walkM V' 4 0 p := ⟨_, rfl⟩
      have HR := Lib.hid hR
      clear hR
      go_wp2_with (fail)
      refine (walk_any pm bk _ _ _ _ _ hmr R HR.out.symm).mono ?_
      rintro e w5 ⟨sv, rfl, ho5, hb5⟩
      have hm5 := hmr.below hb5
      have k5 := hbr.trans (hb5.mono hbr.size)
      by_cases hin : 0 ≤ p ∧ p < 4096
      · obtain ⟨p0, p1⟩ := hin
        have hRL : R = walkL V' 4 p 3 0 := by rw [HR.out, walkM, if_pos ⟨⟨by omega, by omega⟩, p0, p1⟩]
        have hst := walkL_st V' 4 p 3 0
        have hld := walkL_leads V' 4 p 3 0
        have hok := walkL_ok V' 4 p 3 0
        rw [← hRL] at hst hld hok
        obtain ⟨hn3, hst2⟩ := hst
        obtain ⟨r, hr⟩ := hst2 (by omega)
        clear hst2 hRL HR
        obtain ⟨n, hn⟩ : ∃ n, n = R.st.length := ⟨_, rfl⟩
        have hn1 : 1 ≤ n := by rw [hn, hr]; simp
        rw [← hn] at hn3 ho5 hok
        obtain ⟨g, sc, rfl, hgb, hg5, hcs⟩ := own_steps ho5 hn (by omega)
        have hs0 : R.st[0]'(by omega) = (0, idxI p (3 - (3 : Nat))) := by simp [hr]
        have c00 : w5.cell? ⟨g, 0, none⟩ = some (.int .i64 0) := by
          have := (hcs 0 (by omega)).1
          rw [hs0] at this
          simpa using this
        have he1 : (R.e == 1) = false := by simpa using hok.1
        have HN := Lib.hid hn
        have HO := Lib.hid hok
        clear hn hs0 hr hok
        go_wp2_with (fail)
        obtain ⟨w6, hw6⟩ : ∃ w6, w6 = w5.alloc (.cells #[.bool R.v, .bool R.wr, .bool R.tb, .int .i64 R.fr] 34) := ⟨_, rfl⟩
        have k56 : Below w5.heap.size w5 w6 := by rw [hw6]; exact (Below.refl _ _).alloc (Nat.le_refl _) _
        have z6 : w5.heap.size < w6.heap.size := by rw [hw6]; simp
        have e0 : w6.cell? ⟨w5.heap.size, 0, none⟩ = some (.bool R.v) := by rw [hw6]; simp [go_sem]
        have e2 : w6.cell? ⟨w5.heap.size, 2, none⟩ = some (.bool R.tb) := by rw [hw6]; simp [go_sem]
        rw [← hw6]
        clear hw6
        go_loopw [12] (fun i wr => ∃ j : Nat, 1 ≤ j ∧ j ≤ n ∧ i = .int .i64 j ∧ Below w6.heap.size w6 wr) (fun i _ => n - (intOf i).toNat)
        case atStart => exact ⟨1, by omega, by omega, rfl, Below.refl _ _⟩
        case round =>
          obtain ⟨j, hj1, hj2, rfl, hbj⟩ := hrel
          have hmG : ∀ w', Below wr.heap.size wr w' → MemIn w' pm bk 4 V' := fun w' h => ((hm5.below k56).below hbj).below h
          by_cases hjn : j < n
          · obtain ⟨X, Y, q0, q1, q2, s0, s1, s2⟩ := lead_cells hld hcs j hj1 (by have := HN.out; omega)
            have zg : g < wr.heap.size := by have := hbj.size; omega
            have kj : Below w5.heap.size w5 wr := k56.trans (hbj.mono (by omega))
            have s0 := keep kj hg5 s0
            have s1 := keep kj hg5 s1
            have s2 := keep kj hg5 s2
            have hcS : ∀ w', Below wr.heap.size wr w' → w'.cell? ⟨g, (j - 1) * 2, none⟩ = some (.int .i64 X.1) ∧ w'.cell? ⟨g, (j - 1) * 2 + 1, none⟩ = some (.int .i64 X.2) := fun w' h => ⟨keep h zg s0, keep h zg s1⟩
            have Q0 := Lib.hid q0; have Q1 := Lib.hid q1; have Q2 := Lib.hid q2
            clear q0 q1 q2
            go_wp2_with (fail)
            have hj3 : IntKind.i64.wrap ((j : Int) - 1) = (j : Int) - 1 := IntWalk.i64_in _ ⟨by omega, by omega⟩
            have hj4 : (0 : Int) ≤ (j : Int) - 1 := by omega
            have hj5 : (1 : Int) ≤ (j : Int) := by omega
            have hj6 : (j : Int) - 1 < (n : Int) := by omega
            have hj7 : ((j : Int) - 1).toNat = j - 1 := by omega
            go_region_held3 (fun w' => w'.cell? ⟨g, (j - 1) * 2, none⟩ = some (.int .i64 X.1) ∧ w'.cell? ⟨g, (j - 1) * 2 + 1, none⟩ = some (.int .i64 X.2)) (exact hcS _ (by repeat (first | with_reducible exact Below.refl _ _ | with_reducible assumption | with_reducible refine Below.alloc ?_ (by first | omega | (simp <;> omega)) _ | with_reducible refine Below.drew ?_ | with_reducible refine Below.setCell ?_ (by first | omega | (simp <;> omega)) _)))
              (first
                | (go_at_call 30; refine (get_any pm bk _ _ _ _ _ (hmG _ (by repeat (first | with_reducible exact Below.refl _ _ | with_reducible assumption | with_reducible refine Below.alloc ?_ (by first | omega | (simp <;> omega)) _ | with_reducible refine Below.drew ?_ | with_reducible refine Below.setCell ?_ (by first | omega | (simp <;> omega)) _)))).mono ?_; rintro e w7 ⟨rfl, hb7⟩; rw [Q0.out, Q1.out, Q2.out]; have hb7' : Below wr.heap.size wr w7 := Below.trans (by repeat (first | with_reducible exact Below.refl _ _ | with_reducible assumption | with_reducible refine Below.alloc ?_ (by first | omega | (simp <;> omega)) _ | with_reducible refine Below.drew ?_ | with_reducible refine Below.setCell ?_ (by first | omega | (simp <;> omega)) _)) (hb7.mono (by simp)); have hz7 := hb7'.size; have HX := ret_ent rfl (below_undrew hb7); obtain ⟨⟨x0, x1, x2, x3⟩, ⟨y0, y1, y2, y3⟩, zx, _⟩ := HX)
                | (go_at_call 30; refine (get_any pm bk _ _ _ _ _ (hmG _ (by repeat (first | with_reducible exact Below.refl _ _ | with_reducible assumption | with_reducible refine Below.alloc ?_ (by first | omega | (simp <;> omega)) _ | with_reducible refine Below.drew ?_ | with_reducible refine Below.setCell ?_ (by first | omega | (simp <;> omega)) _)))).mono ?_; rintro e w7 ⟨rfl, hb7⟩; rw [Q0.out, Q1.out, Q2.out]; have hb7' : Below wr.heap.size wr w7 := Below.trans (by repeat (first | with_reducible exact Below.refl _ _ | with_reducible assumption | with_reducible refine Below.alloc ?_ (by first | omega | (simp <;> omega)) _ | with_reducible refine Below.drew ?_ | with_reducible refine Below.setCell ?_ (by first | omega | (simp <;> omega)) _)) (hb7.mono (by simp)); have hz7 := hb7'.size))
            all_goals
              have s2' := keep hb7' zg s2
              have zg7 : g < w7.heap.size := by omega
              have zg8 : g ≠ wr.heap.size := by omega
              go_wp2_with (fail)
              go_quiet (fail)
              go_wp2_with (fail)
              go_roundw
              case rel => exact ⟨j + 1, by omega, by omega, by go_num, hbj.trans (Below.mono (B := wr.heap.size) (by repeat (first | with_reducible exact Below.refl _ _ | with_reducible assumption | with_reducible refine Below.alloc ?_ (by first | omega | (simp <;> omega)) _ | with_reducible refine below_drewN ?_ _ | with_reducible refine Below.drew ?_ | with_reducible refine Below.setCell ?_ (by first | omega | (simp <;> omega)) _)) hbj.size)⟩
              case measure => simp [intOf]; omega
          · have hjn' : j = n := by omega
            subst hjn'
            have e0 := keep hbj z6 e0
            have e2 := keep hbj z6 e2
            have kf : Below w.heap.size w wr := (k5.trans (k56.mono k5.size)).trans (hbj.mono (by have := k5.size; omega))
            have HOo := HO.out
            by_cases hR0 : R.e = 0
            · obtain ⟨m1, m2, m3⟩ := HOo.2 hR0
              have hE' : (R.e != 0) = false := by simp [hR0]
              have hN3 : ((j : Int) == 3) = true := by simp; omega
              rw [m2] at e0
              rw [m3] at e2
              clear HOo hR0 m1 m2 m3
              go_wp2_with (fail)
              try (go_quiet (fail); go_wp2_with (fail))
              go_ret
              exact ⟨by simp, by first | exact kf | exact below_drewN kf _⟩
            · have hE' : (R.e != 0) = true := by simp [hR0]
              clear HOo hR0
              go_wp2_with (fail)
              try (go_quiet (fail); go_wp2_with (fail))
              go_ret
              exact ⟨by simp, by first | exact kf | exact below_drewN kf _⟩
      · have hRR : R = ⟨false, false, false, 0, [], 1⟩ := by rw [HR.out, walkM, if_neg (fun h => hin h.2)]
        subst hRR
        obtain ⟨x1, y1, rfl⟩ := own_len ho5
        have hh : p < 0 ∨ (¬ p < 0 ∧ 4095 < p) := by omega
        clear HR hin
        rcases hh with h | ⟨h, h'⟩
        all_goals
          go_wp2_with (fail)
          go_ret
          exact ⟨rfl, k5.alloc k5.size _⟩

end Go.Proofs.Ytnodcmmifbcbiaa
