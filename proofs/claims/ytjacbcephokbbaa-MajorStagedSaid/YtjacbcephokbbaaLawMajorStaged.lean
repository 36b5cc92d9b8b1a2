/- MajorStaged returns true. -/
import Derived.Test.YtjacbcephokbbaaLawMajorWindows
namespace Go.Proofs.Ytjacbcephokbbaa
set_option linter.unusedSimpArgs false
set_option linter.unusedVariables false
set_option maxRecDepth 100000
open Go.RowKit
set_option maxHeartbeats 4000000

/-- A clock that has gone n ticks. -/
def RunP (g w : World) (pc : Nat) (m : Int) (L : List Win) (stg : Option (Int × List Win)) (n place : Int) (R : HP) : Prop := ∃ U : Nat → Int, (∀ i, i < 8 → 0 ≤ U i ∧ U i ≤ n) ∧ Sat g w (ckP pc m L stg n place U * R)
theorem bump_range {U : Nat → Int} {n : Int} (h : ∀ i, i < 8 → 0 ≤ U i ∧ U i ≤ n) (p : Int) : ∀ i, i < 8 → 0 ≤ bump U p i ∧ bump U p i ≤ n + 1 := fun i hi => by
  have := h i hi
  unfold bump
  split <;> omega
theorem RunP.below {g w w' : World} {pc : Nat} {m : Int} {L : List Win} {stg : Option (Int × List Win)} {n place : Int} {R : HP} (h : RunP g w pc m L stg n place R) (b : Below w.heap.size w w') : RunP g w' pc m L stg n place R :=
  h.elim fun U ⟨h1, h2⟩ => ⟨U, h1, h2.below b⟩
theorem run_next (pc : Nat) (m : Int) (L : List Win) (stg : Option (Int × List Win)) (n place : Int) (g w : World) (R : HP) (h : RunP g w pc m L stg n place R) (hn : 0 ≤ n) (hn2 : n < 1000000000) (hp : 0 ≤ place) (hpm : place < m) :
    Calls Try.prog 9 #[.pointer (some ⟨pc, 0, none⟩)] w fun e w' => e = .returned (.agg #[.int .i64 n, .int .i64 place, .int .i64 (atW L place), .bool (L.any fun x => x.f == place)]) ∧
      RunP g w' pc (turnT m L stg ((place + 1) % m)).1 (turnT m L stg ((place + 1) % m)).2 (turnS stg ((place + 1) % m)) (n + 1) ((place + 1) % m) R := by
  obtain ⟨U, h1, h2⟩ := h
  exact (s_next pc m L stg n place U g w R h2 hn hn2 h1 hp hpm).mono fun e w' ⟨x, y⟩ => ⟨x, _, bump_range h1 _, y⟩
theorem RunP.star {g w : World} {pc : Nat} {m : Int} {L : List Win} {stg : Option (Int × List Win)} {n place : Int} {P R R' : HP} (h : RunP g w pc m L stg n place R) (h' : ∀ Q, Sat g w (Q * R) → Sat g w (Q * R')) : RunP g w pc m L stg n place R' :=
  h.elim fun U ⟨h1, h2⟩ => ⟨U, h1, h' _ h2⟩
/-- What stands behind a tick that is looked at. -/
def TkAt (w : World) (tb : Nat) (n place part : Int) (first : Bool) : Prop := w.cell? ⟨tb, 0, none⟩ = some (.int .i64 n) ∧ w.cell? ⟨tb, 1, none⟩ = some (.int .i64 place) ∧ w.cell? ⟨tb, 2, none⟩ = some (.int .i64 part) ∧ w.cell? ⟨tb, 3, none⟩ = some (.bool first)
theorem tk_new (w : World) (n place part : Int) (first : Bool) : TkAt (w.alloc (.cells #[.int .i64 n, .int .i64 place, .int .i64 part, .bool first] 31)) w.heap.size n place part first := by
  refine ⟨?_, ?_, ?_, ?_⟩ <;> simp [go_sem]
theorem TkAt.below {w w' : World} {tb : Nat} {n place part : Int} {first : Bool} (h : TkAt w tb n place part first) (b : Below w.heap.size w w') : TkAt w' tb n place part first :=
  ⟨keep b (cell_lt h.1) h.1, keep b (cell_lt h.2.1) h.2.1, keep b (cell_lt h.2.2.1) h.2.2.1, keep b (cell_lt h.2.2.2) h.2.2.2⟩
theorem run_at (pc : Nat) (m : Int) (L : List Win) (stg : Option (Int × List Win)) (n place : Int) (pt : Nat) (m' : Int) (M : List Win) (t : Int) (g w : World) (R : HP) (h : RunP g w pc m L stg n place (tabP pt m' M * R)) :
    Calls Try.prog 10 #[.pointer (some ⟨pt, 0, none⟩), .int .i64 t] w fun e w' => e = .returned (.int .i64 (atW M t)) ∧ Below w.heap.size w w' := by
  obtain ⟨U, _, h⟩ := h
  exact s_at pt m' M t g w _ h.swap
/-- Between the frames: either the elder table still, with another one staged, or the new one from its beginning. -/
def Mid (g w : World) (pc : Nat) (A B : List Win) (r k : Nat) (R : HP) : Prop := ∃ n : Int, 0 ≤ n ∧ n ≤ 60 + k ∧ ((0 < r ∧ k < 20 ∧ RunP g w pc 20 A (some (13, B)) n k R) ∨ ((r = 0 ∧ k = 0 ∨ k = 20) ∧ RunP g w pc 13 B none n 0 R))

theorem staged16_walk (at_ : Int) (a b : Option Addr) (ca cb : Nat) (LA LB : List Win) (g : World) (hA : SlotsAt g a LA) (hB : SlotsAt g b LB) (hmA : LA.length ≤ 9223372036854775807) (hmB : LB.length ≤ 9223372036854775807) :
    Calls Try.prog 4 #[.slice a LA.length ca, .slice b LB.length cb, .int .i64 at_] g fun e w' => e = .returned (.bool true) ∧ Below g.heap.size g w' := by
  have S0 := Sat.start g
  have hkA : ∀ w' Q, Sat g w' (Q * whole g) → SlotsAt w' a LA := fun w' Q h => hA.keep (Sat.ends (h.perm (star_comm _ _)))
  have hkB : ∀ w' Q, Sat g w' (Q * whole g) → SlotsAt w' b LB := fun w' Q h => hB.keep (Sat.ends (h.perm (star_comm _ _)))
  go_enter Try.func4, Try.ntmps4
  go_wp2_with (fail)
  refine (awake16 g _ _ S0).mono ?_
  rintro e w1 ⟨rfl, S1⟩
  go_wp2_with (fail)
  refine (s_table 20 a ca LA g w1 _ S1 hkA hmA (by omega) (by omega)).mono ?_
  rintro e w2 ⟨pt, rfl, S2⟩
  go_wp2_with (fail)
  refine (s_table 13 b cb LB g w2 _ S2 (fun w' Q h => hkB w' (Q * tabP pt 20 (tabF 20 LA)) (h.perm (by ac_rfl))) hmB (by omega) (by omega)).mono ?_
  rintro e w3 ⟨pu, rfl, S3⟩
  generalize tabF 20 LA = A at S3
  obtain ⟨B, hB2⟩ : ∃ B, tabF 13 LB = B := ⟨_, rfl⟩
  rw [hB2] at S3
  have HB2 := Lib.hid hB2
  clear hB2
  by_cases hbig : 60 < LA.length ∨ 60 < LB.length ∨ at_ < 0 ∨ 60 < at_
  · have h : 60 < LA.length ∨ (¬ 60 < LA.length ∧ (60 < LB.length ∨ (¬ 60 < LB.length ∧ (at_ < 0 ∨ (¬ at_ < 0 ∧ 60 < at_))))) := by omega
    rcases h with h | ⟨h3, h | ⟨h4, h | ⟨h5, h6⟩⟩⟩
    all_goals
      go_wp2_with (fail)
      go_ret
      exact ⟨rfl, Sat.ends (S3.perm (show _ = whole g * (tabP pu 13 B * tabP pt 20 A) by ac_rfl))⟩
  have h3 : LA.length ≤ 60 := by omega
  have h4 : LB.length ≤ 60 := by omega
  have h5 : 0 ≤ at_ := by omega
  have h6 : at_ ≤ 60 := by omega
  clear hbig hkA hA hB
  have HKB := Lib.hid hkB
  clear hkB
  obtain ⟨x, rfl⟩ := Int.eq_ofNat_of_zero_le h5
  go_wp2_with (fail)
  refine (s_clock pt 20 A g _ _ (S3.perm (show _ = tabP pt 20 A * (tabP pu 13 B * whole g) by ac_rfl))).mono ?_
  rintro e w4 ⟨pc, rfl, S4⟩
  go_wp2_with (fail)
  go_loopw [12] (fun i wr => ∃ k : Nat, k ≤ x ∧ i = .int .i64 k ∧ RunP g wr pc 20 A none k ((k : Int) % 20) (tabP pt 20 A * (tabP pu 13 B * whole g))) (fun i _ => x - (intOf i).toNat)
  case atStart => exact ⟨0, by omega, rfl, fun _ => 0, fun i _ => ⟨Int.le_refl _, Int.le_refl _⟩, S4⟩
  case round =>
    obtain ⟨k, hk, rfl, R4⟩ := hrel
    by_cases hkx : k < x
    · have hmod2 : ((k : Int) % 20 + 1) % 20 = ((k + 1 : Nat) : Int) % 20 := by push_cast; omega
      have HN := Lib.hid (run_next pc 20 A none k ((k : Int) % 20) g wr _ R4 (by omega) (by omega) (by omega) (by omega))
      have HM := Lib.hid hmod2
      clear hmod2
      go_wp2_with (fail)
      refine (HN.out).mono ?_
      rintro e w5 ⟨rfl, R5⟩
      simp only [turnT_none, turnS_none] at R5
      rw [HM.out] at R5
      go_wp2_with (fail)
      go_roundw
      case rel => exact ⟨k + 1, by omega, by go_num, by rw [show ((k + 1 : Nat) : Int) = (k : Int) + 1 by push_cast; rfl] at R5 ⊢; exact R5.below (by repeat (first | with_reducible exact Below.refl _ _ | with_reducible assumption | with_reducible refine below_drewN ?_ _ | with_reducible refine Below.alloc ?_ (by simp <;> omega) _))⟩
      case measure => simp [intOf]; omega
    · obtain rfl : k = x := by omega
      obtain ⟨U, hU, S5⟩ := R4
      obtain ⟨r, hr⟩ : ∃ r : Nat, (k : Int) % 20 = r := ⟨k % 20, by omega⟩
      have hr20 : r < 20 := by omega
      rw [hr] at S5
      have HR := Lib.hid hr
      clear hr
      have hturn := s_stage pc 20 A none k r U pu 13 B g wr (tabP pt 20 A * whole g) (S5.perm (by ac_rfl))
      have HT := Lib.hid hturn
      clear hturn S5
      go_wp2_with (fail)
      refine HT.out.mono ?_
      rintro e w5 ⟨rfl, S6⟩
      go_wp2_with (fail)
      refine (s_remove pu 13 B 0 g _ _ S6.swap).mono ?_
      rintro e w6 ⟨rfl, S7⟩
      go_wp2_with (fail)
      refine (s_table 13 b cb LB g _ _ S7 (fun w' Q h => HKB.out w' (Q * (tabP pu 13 (notP 0 B) * (ckP pc (turnT 20 A (some (13, B)) r).1 (turnT 20 A (some (13, B)) r).2 (turnS (some (13, B)) r) k r U * tabP pt 20 A))) (h.perm (by ac_rfl))) hmB (by omega) (by omega)).mono ?_
      rintro e w7 ⟨pv, rfl, S8⟩
      rw [HB2.out] at S8
      have hmid : Mid g w7 pc A B r r (tabP pt 20 A * (tabP pv 13 B * (tabP pu 13 (notP 0 B) * whole g))) := by
        refine ⟨k, by omega, by omega, ?_⟩
        by_cases h0 : r = 0
        · subst h0
          exact Or.inr ⟨Or.inl ⟨rfl, rfl⟩, U, hU, S8.perm (by simp only [turnT, turnS]; rw [if_pos (by decide), if_pos (by decide)]; simp only [show ((0 : Nat) : Int) = 0 from rfl]; ac_rfl)⟩
        · have hz : ¬ (r : Int) = 0 := by omega
          exact Or.inl ⟨by omega, by omega, U, hU, S8.perm (by simp only [turnT, turnS]; rw [if_neg hz, if_neg hz]; ac_rfl)⟩
      clear S6 S7 S8
      have hrr := HR.out
      have hrm : (k : Int).tmod 20 = r := by rw [Int.tmod_eq_emod_of_nonneg (by omega)]; exact hrr
      go_wp2_with (fail)
      obtain ⟨wo, rfl⟩ : ∃ wo : World, wo = wr := ⟨_, rfl⟩
      go_loopw [15] (fun i wx => ∃ j : Nat, r ≤ j ∧ j ≤ 20 ∧ i = .int .i64 j ∧ Mid g wx pc A B r j (tabP pt 20 A * (tabP pv 13 B * (tabP pu 13 (notP 0 B) * whole g)))) (fun i _ => 20 - (intOf i).toNat)
      case atStart => first | exact ⟨r, by omega, by omega, rfl, hmid⟩ | exact ⟨r, by omega, by omega, by rw [hrr], hmid⟩
      case round =>
        obtain ⟨j, hj1, hj2, rfl, n, hn1, hn2, hM⟩ := hrel
        clear hmid
        rcases hM with ⟨hr0, hj20, R6⟩ | ⟨hend, R6⟩
        · have hr0' : (0 : Int) < r := by omega
          have hdj : decide ((j : Int) < 20) = true := by simp; omega
          have hdr : decide ((0 : Int) < r) = true := by simp; omega
          have HN := Lib.hid (run_next pc 20 A (some (13, B)) n j g wr _ R6 (by omega) (by omega) (by omega) (by omega))
          clear R6
          go_wp2_with (fail)
          refine (HN.out).mono ?_
          rintro e w8 ⟨rfl, R8⟩
          generalize hpart : atW A (j : Int) = part
          generalize (A.any fun x => x.f == (j : Int)) = first
          have HP := Lib.hid hpart
          clear hpart
          go_upto_region 20 with fail
          have TK := tk_new w8 n j part first
          have R9 := R8.below (w' := w8.alloc (.cells #[.int .i64 n, .int .i64 j, .int .i64 part, .bool first] 31)) (by repeat (first | with_reducible exact Below.refl _ _ | with_reducible assumption | with_reducible refine below_drewN ?_ _ | with_reducible refine Below.alloc ?_ (by simp <;> omega) _))
          obtain ⟨w9, hw9⟩ : ∃ w9, w9 = w8.alloc (.cells #[.int .i64 n, .int .i64 j, .int .i64 part, .bool first] 31) := ⟨_, rfl⟩
          rw [← hw9] at TK R9 ⊢
          clear hw9 R8
          have HTK := Lib.hid (fun w' (hb : Below w9.heap.size w9 w') => TK.below hb)
          have HA : ∀ w', Below w9.heap.size w9 w' → Calls Try.prog 10 #[.pointer (some ⟨pt, 0, none⟩), .int .i64 j] w' fun e w'' => e = .returned (.int .i64 part) ∧ Below w9.heap.size w9 w'' := fun w' hb => (run_at pc _ _ _ _ _ pt 20 A j g w' _ (R9.below hb)).mono fun e w'' ⟨x, y⟩ => ⟨by rw [x, HP.out], hb.trans (y.mono hb.size)⟩
          have HA := Lib.hid HA
          clear TK
          have c1 := fun p : Wc (fun w' => Below w9.heap.size w9 w') => (HTK.out p.w p.h).2.1
          have c2 := fun p : Wc (fun w' => Below w9.heap.size w9 w') => (HTK.out p.w p.h).2.2.1
          refine region_class (fun w' => Below w9.heap.size w9 w') (by kernel_rfl) (by kernel_rfl) (by repeat (first | with_reducible exact Below.refl _ _ | with_reducible assumption | with_reducible refine below_drewN ?_ _ | with_reducible refine Below.drew ?_ | with_reducible refine Below.setCell ?_ (by first | omega | (simp <;> omega)) _ | with_reducible refine Below.alloc ?_ (by first | omega | (simp <;> omega)) _)) ?_
          intro _
          repeat (first | go_big_quiet_step (((go_at_call 10; exact class_call (HA.out _ (Wc.h _))))) | quiet_step ((fail)))
          refine wpQuiet_nil ?_
          intro wa hba
          clear c1 c2
          all_goals
            have R10 := R9.below hba
            go_wp2_with (fail)
            go_roundw
            case rel =>
              refine ⟨j + 1, by omega, by omega, by go_num, n + 1, by omega, by omega, ?_⟩
              by_cases hl : j + 1 < 20
              · have e1 : ((j : Int) + 1) % 20 = ((j + 1 : Nat) : Int) := by omega
                rw [e1] at R10
                have hz : ¬ ((j + 1 : Nat) : Int) = 0 := by omega
                simp only [turnT, turnS] at R10
                rw [if_neg hz, if_neg hz] at R10
                exact Or.inl ⟨hr0, hl, R10⟩
              · have e1 : ((j : Int) + 1) % 20 = 0 := by omega
                rw [e1] at R10
                simp only [turnT, turnS, if_true] at R10
                exact Or.inr ⟨Or.inr (by omega), R10⟩
            case measure => simp [intOf]; omega
        · rcases hend with ⟨rfl, rfl⟩ | rfl
          all_goals
            go_wp2_with (fail)
            obtain ⟨wo2, rfl⟩ : ∃ wo : World, wo = wr := ⟨_, rfl⟩
            go_loopw [17] (fun i wy => ∃ (j : Nat) (n : Int), j ≤ 26 ∧ 0 ≤ n ∧ n ≤ 100 + j ∧ i = .int .i64 j ∧ RunP g wy pc 13 B none n ((j : Int) % 13) (tabP pt 20 A * (tabP pv 13 B * (tabP pu 13 (notP 0 B) * whole g)))) (fun i _ => 26 - (intOf i).toNat)
            case atStart => exact ⟨0, n, by omega, by omega, by omega, rfl, R6⟩
            case round =>
              obtain ⟨j, n', hj, hn1', hn2', rfl, R7⟩ := hrel
              clear R6
              by_cases hj26 : j < 26
              · have hdj : decide ((j : Int) < 26) = true := by simp; omega
                have hmod2 : ((j : Int) % 13 + 1) % 13 = ((j + 1 : Nat) : Int) % 13 := by push_cast; omega
                have HN := Lib.hid (run_next pc 13 B none n' ((j : Int) % 13) g wr _ R7 (by omega) (by omega) (by omega) (by omega))
                rw [hmod2] at HN
                clear hmod2
                have hp0 : 0 ≤ (j : Int) % 13 := by omega
                have hp1 : (j : Int) % 13 < 13 := by omega
                have hrem : (j : Int).tmod 13 = (j : Int) % 13 := Int.tmod_eq_emod_of_nonneg (by omega)
                generalize hq : (j : Int) % 13 = q at HN hp0 hp1 hrem
                have HQ := Lib.hid hq
                have HREM := Lib.hid hrem
                clear hq hrem R7
                go_wp2_with (fail)
                refine (HN.out).mono ?_
                rintro e w8 ⟨rfl, R8⟩
                simp only [turnT_none, turnS_none] at R8
                generalize hpart : atW B q = part
                generalize (B.any fun x => x.f == q) = first
                have HP := Lib.hid hpart
                clear hpart
                go_upto_region 26 with fail
                have TK := tk_new w8 n' q part first
                have R9 := R8.below (w' := w8.alloc (.cells #[.int .i64 n', .int .i64 q, .int .i64 part, .bool first] 31)) (by repeat (first | with_reducible exact Below.refl _ _ | with_reducible assumption | with_reducible refine below_drewN ?_ _ | with_reducible refine Below.alloc ?_ (by simp <;> omega) _))
                obtain ⟨w9, hw9⟩ : ∃ w9, w9 = w8.alloc (.cells #[.int .i64 n', .int .i64 q, .int .i64 part, .bool first] 31) := ⟨_, rfl⟩
                rw [← hw9] at TK R9 ⊢
                clear hw9 R8
                have HTK := Lib.hid (fun w' (hb : Below w9.heap.size w9 w') => TK.below hb)
                have HA : ∀ w', Below w9.heap.size w9 w' → Calls Try.prog 10 #[.pointer (some ⟨pv, 0, none⟩), .int .i64 q] w' fun e w'' => e = .returned (.int .i64 part) ∧ Below w9.heap.size w9 w'' := fun w' hb => (run_at pc _ _ _ _ _ pv 13 B q g w' _ ((R9.below hb).star (P := Ytjacbcephokbbaa.emp) fun Q h => h.perm (show _ = Q * (tabP pv 13 B * (tabP pt 20 A * (tabP pu 13 (notP 0 B) * whole g))) by ac_rfl))).mono fun e w'' ⟨x, y⟩ => ⟨by rw [x, HP.out], hb.trans (y.mono hb.size)⟩
                have HA := Lib.hid HA
                have hrem := HREM.out
                have hmd := HQ.out
                have hwr : IntKind.i64.wrap q = q := IntWalk.i64_in _ ⟨by omega, by omega⟩
                clear TK
                have c1 := fun p : Wc (fun w' => Below w9.heap.size w9 w') => (HTK.out p.w p.h).2.1
                have c2 := fun p : Wc (fun w' => Below w9.heap.size w9 w') => (HTK.out p.w p.h).2.2.1
                refine region_class (fun w' => Below w9.heap.size w9 w') (by kernel_rfl) (by kernel_rfl) (by repeat (first | with_reducible exact Below.refl _ _ | with_reducible assumption | with_reducible refine below_drewN ?_ _ | with_reducible refine Below.drew ?_ | with_reducible refine Below.setCell ?_ (by first | omega | (simp <;> omega)) _ | with_reducible refine Below.alloc ?_ (by first | omega | (simp <;> omega)) _)) ?_
                intro _
                repeat (first | go_big_quiet_step (((go_at_call 10; exact class_call (HA.out _ (Wc.h _))))) | quiet_step ((fail)))
                refine wpQuiet_nil ?_
                intro wa hba
                clear c1 c2
                clear hwr hrem hmd
                all_goals
                  have R10 := R9.below hba
                  go_wp2_with (fail)
                  go_roundw
                  case rel => first | exact ⟨j + 1, n' + 1, by omega, by omega, by omega, by go_num, R10⟩ | ((repeat apply Exists.intro); exact ⟨⟨j + 1, n' + 1, by omega, by omega, by omega, by go_num, R10⟩, rfl⟩)
                  case measure => simp [intOf]; omega
              · obtain rfl : j = 26 := by omega
                obtain ⟨U2, _, S9⟩ := R7
                go_wp2_with (fail)
                refine (s_stage_nil pc _).mono ?_
                rintro e w9 ⟨rfl, rfl⟩
                go_wp2_with (fail)
                go_ret
                exact ⟨rfl, Sat.ends (S9.right.right.right.right.emp.perm (star_comm _ _))⟩

end Go.Proofs.Ytjacbcephokbbaa
