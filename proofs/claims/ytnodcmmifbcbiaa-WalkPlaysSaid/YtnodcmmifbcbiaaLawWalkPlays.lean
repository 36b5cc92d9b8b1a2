/- WalkPlays returns true, by a walk over its text. -/
import Derived.Test.YtnodcmmifbcbiaaLawWalkOwn
import Derived.Test.YtnodcmmifbcbiaaRef07
namespace Go.Proofs.Ytnodcmmifbcbiaa
set_option linter.unusedSimpArgs false
set_option linter.unusedVariables false
open Go.RowKit
set_option maxHeartbeats 40000000

theorem and_bd (x : Int) (m : Nat) (hm : m < 9223372036854775808) : 0 ≤ bits .and .i64 x m ∧ bits .and .i64 x m ≤ m := by
  have h : bits .and .i64 x (m : Int) = IntKind.i64.wrap (((BitVec.ofInt 64 x &&& BitVec.ofInt 64 (m : Int)).toNat : Nat) : Int) := rfl
  rw [h]
  have h2 : (BitVec.ofInt 64 x &&& BitVec.ofInt 64 (m : Int)).toNat ≤ m := by
    rw [BitVec.toNat_and]
    refine Nat.le_trans Nat.and_le_right ?_
    rw [BitVec.ofInt_natCast, BitVec.toNat_ofNat]
    exact Nat.mod_le _ _
  rw [IntKind.wrap_i64]
  omega

/-- The words behind one that is written. -/
def writeW (W : Nat → Int) (n : Nat) (a x : Int) : Nat → Int := if 0 ≤ a ∧ a < 16 * n then setW W a.toNat x else W
def writeE (n : Nat) (a : Int) : Int := if 0 ≤ a ∧ a < 16 * n then 0 else 1
theorem write_any (pm bk n : Nat) (W : Nat → Int) (a x : Int) (w : World) (hm : MemIn w pm bk n W) (hx : 0 ≤ x) (hx' : x < 18446744073709551616) :
    Calls Try.prog 27 #[.pointer (some ⟨pm, 0, none⟩), .int .i64 a, .int .u64 x] w fun e w' => e = .returned (.int .i64 (writeE n a)) ∧ MemIn w' pm bk n (writeW W n a x) ∧ Touch (· = bk) w w' := by
  unfold writeW writeE
  by_cases h : 0 ≤ a ∧ a < 16 * n
  · rw [if_pos h, if_pos h]; exact write_yes pm bk n W a x w hm h.1 h.2 hx hx'
  · rw [if_neg h, if_neg h]
    exact (write_no pm bk n W a x w hm h).mono fun e w' ⟨he, hw⟩ => by subst hw; exact ⟨he, hm, Touch.refl _ _⟩
theorem r02_write (pm bk n : Nat) (W : Nat → Int) (a x : Int) (w : World) (hm : RefIn w pm bk n W) (hx : 0 ≤ x) (hx' : x < 18446744073709551616) :
    Calls Try.prog 28 #[.pointer (some ⟨pm, 0, none⟩), .int .i64 a, .int .u64 x] w fun e w' => e = .returned (.int .i64 (writeE n a)) ∧ RefIn w' pm bk n (writeW W n a x) ∧ Touch (· = bk) w w' := by
  unfold writeW writeE
  by_cases h : 0 ≤ a ∧ a < 16 * n
  · rw [if_pos h, if_pos h]; exact r02_write_yes pm bk n W a x w hm h.1 h.2 hx hx'
  · rw [if_neg h, if_neg h]
    exact (r02_write_no pm bk n W a x w hm h).mono fun e w' ⟨he, hw⟩ => by subst hw; exact ⟨he, hm, Touch.refl _ _⟩
theorem r07_put (pm bk n : Nat) (W : Nat → Int) (f p : Int) (v wr tb : Bool) (fr : Int) (w : World) (hm : RefIn w pm bk n W) :
    Calls Try.prog 26 #[.pointer (some ⟨pm, 0, none⟩), .int .i64 f, .int .i64 p, .agg #[.bool v, .bool wr, .bool tb, .int .i64 fr]] w fun e w' => e = .returned (.int .i64 (putE n f p v wr tb fr)) ∧ RefIn w' pm bk n (putW W n f p v wr tb fr) ∧ Touch (· = bk) w w' := by
  unfold putW putE
  by_cases h : inT n f p ∧ rightB v wr tb fr = true
  · simp only [h, and_self, if_true]
    exact r07_put_in pm bk n W f p v wr tb fr w hm h.1 h.2
  · simp only [h, if_false]
    exact (r07_put_out pm bk n W f p v wr tb fr w hm h).mono fun e w' ⟨he, hb⟩ => ⟨he, hm.below hb, Touch.of_below hb⟩

/-- A list of numbers that came in. -/
def PgArg (w : World) (a : Option Addr) (len : Nat) (P : Nat → Int) : Prop :=
  len = 0 ∨ ∃ b off, a = some ⟨b, off, none⟩ ∧ b < w.heap.size ∧ ∀ i, i < len → w.cell? ⟨b, off + i, none⟩ = some (.int .i64 (P i))
theorem StepsArg.below {w w' : World} {a : Option Addr} {n : Nat} {S : List (Int × Int)} (hs : StepsArg w a n S) (h : Below w.heap.size w w') : StepsArg w' a n S :=
  ⟨hs.1, hs.2.elim Or.inl fun ⟨g, e, hg, hc⟩ => Or.inr ⟨g, e, by have := h.size; omega, fun i hi => ⟨keep h hg (hc i hi).1, keep h hg (hc i hi).2⟩⟩⟩
theorem steps_yes (sa ta : Option Addr) (n c1 c2 : Nat) (S : List (Int × Int)) (w : World) (hs : StepsArg w sa n S) (ht : StepsArg w ta n S) (hn : n ≤ 3) :
    Calls Try.prog 36 #[.slice sa n c1, .slice ta n c2] w fun e w' => e = .returned (.bool true) ∧ Below w.heap.size w w' := by
  go_enter Try.func36, Try.ntmps36
  go_wp2_with (fail)
  go_loopw [5] (fun i wr => ∃ (j q : Nat), j ≤ n ∧ i = .int .i64 j ∧ wr = w.drewN q) (fun i _ => n - (intOf i).toNat)
  case atStart => exact ⟨0, 0, by omega, rfl, rfl⟩
  case round =>
    obtain ⟨j, q, hj, rfl, rfl⟩ := hrel
    by_cases hjn : j < n
    · have hSl := hs.1
      rcases hs.2 with h0 | ⟨g, rfl, hg, hcs⟩
      · omega
      rcases ht.2 with h0 | ⟨tg, rfl, htg, hct⟩
      · omega
      obtain ⟨s0, s1⟩ := hcs j (by omega)
      obtain ⟨t0, t1⟩ := hct j (by omega)
      generalize S[j] = X at s0 s1 t0 t1
      clear hSl
      go_wp2_with (fail)
      go_quiet (fail)
      go_wp2_with (fail)
      go_roundw
      case rel => exact ⟨j + 1, _, by omega, by go_num, rfl⟩
      case measure => simp [intOf]; omega
    · have hjn' : j = n := by omega
      subst hjn'
      go_wp2_with (fail)
      go_ret
      exact ⟨rfl, below_drewN (Below.refl _ _) _⟩

set_option maxRecDepth 100000 in
theorem walkPlays_no (fr : Int) (a b : Option Addr) (len cap len2 cap2 : Nat) (w : World) (h : ¬ (1 ≤ fr ∧ fr ≤ 256)) :
    Calls Try.prog 8 #[.int .i64 fr, .slice a len cap, .slice b len2 cap2] w fun e w' => e = .returned (.bool true) ∧ Below w.heap.size w w' := by
  go_enter Try.func8, Try.ntmps8
  go_wp2_with (fail)
  refine (awake07 _).mono ?_
  rintro e w1 ⟨rfl, hb1⟩
  go_wp2_with (fail)
  refine (new_no _ _ h).mono ?_
  rintro e w2 ⟨rfl, rfl⟩
  go_wp2_with (fail)
  refine (r02_new_no _ _ h).mono ?_
  rintro e w2 ⟨rfl, rfl⟩
  go_wp2_with (fail)
  go_ret
  exact ⟨rfl, hb1⟩

set_option maxRecDepth 100000 in
theorem walkPlays_walk (fr : Int) (a b : Option Addr) (len cap len2 cap2 : Nat) (L : Nat → Op7) (Pg : Nat → Int) (w : World) (hl : OpsArg w a len L) (hlm : len ≤ 9223372036854775807) (hok : ∀ i, i < len → (L i).ok) (hpg : PgArg w b len2 Pg) (hpm : len2 ≤ 9223372036854775807) (h1 : 1 ≤ fr) (h2 : fr ≤ 256) :
    Calls Try.prog 8 #[.int .i64 fr, .slice a len cap, .slice b len2 cap2] w fun e w' => e = .returned (.bool true) ∧ Below w.heap.size w w' := by
  go_enter Try.func8, Try.ntmps8
  go_wp2_with (fail)
  refine (awake07 _).mono ?_
  rintro e w1 ⟨rfl, hb1⟩
  go_wp2_with (fail)
  refine (new_yes _ _ h1 h2).mono ?_
  rintro e w2 ⟨pm, bk, rfl, hm2, hpm, hbk, hb2⟩
  go_wp2_with (fail)
  refine (r02_new_yes _ _ h1 h2).mono ?_
  rintro e w3 ⟨pr, br, rfl, hr3, hpr, hbr, hb3⟩
  obtain ⟨n, hn⟩ : ∃ n, n = fr.toNat := ⟨_, rfl⟩
  rw [← hn] at hm2 hr3
  have HN := Lib.hid hn
  clear hn
  have hm3 := hm2.below hb3
  have k2 := hb1.trans (hb2.mono hb1.size)
  have k3 := k2.trans (hb3.mono k2.size)
  have hbw : w.heap.size ≤ bk := by have := hb1.size; omega
  have hpw : w.heap.size ≤ pm := by have := hb1.size; omega
  have hrw : w.heap.size ≤ br := by have := k2.size; omega
  have hbb : ¬ bk = br := by have := hm2.bk_lt; omega
  have hpb : ¬ pm = br := by have := hm2.pm_lt; omega
  have hrb : ¬ br = bk := by omega
  have hqb : ¬ pr = bk := by have := hm2.bk_lt; omega
  go_wp2_with (fail)
  refine (tables_any pm bk _ _ _ hm3).mono ?_
  rintro e w4 ⟨rfl, hm4, ht4⟩
  have hr4 := hr3.touch ht4 hqb hrb
  have k4 := k3.trans (ht4.below k3.size (fun j hj => by omega))
  go_wp2_with (fail)
  refine wp_loop_rounds 4 ?_
  rw [rounds_succ]
  go_wp2_with (fail)
  refine (r07_put pr br _ _ _ _ _ _ _ _ _ (hr4.below ((Below.refl _ _).alloc (Nat.le_refl _) _))).mono ?_
  rintro e w5 ⟨rfl, hr5, ht5⟩
  have hs5 := ht5.size
  simp at hs5
  have hm5 := (hm4.below ((Below.refl _ _).alloc (Nat.le_refl _) _)).touch ht5 hpb hbb
  have k5 := (k4.alloc k4.size _).trans (ht5.below (by have := k4.size; simp; omega) (fun j hj => by omega))
  go_wp2_with (fail)
  rw [rounds_succ]
  go_wp2_with (fail)
  refine (r07_put pr br _ _ _ _ _ _ _ _ _ (hr5.below ((Below.refl _ _).alloc (Nat.le_refl _) _))).mono ?_
  rintro e w6 ⟨rfl, hr6, ht6⟩
  have hs6 := ht6.size
  simp at hs6
  have hm6 := (hm5.below ((Below.refl _ _).alloc (Nat.le_refl _) _)).touch ht6 hpb hbb
  have k6 := (k5.alloc k5.size _).trans (ht6.below (by have := k5.size; simp; omega) (fun j hj => by omega))
  go_wp2_with (fail)
  rw [rounds_succ]
  go_wp2_with (fail)
  refine (r07_put pr br _ _ _ _ _ _ _ _ _ (hr6.below ((Below.refl _ _).alloc (Nat.le_refl _) _))).mono ?_
  rintro e w7 ⟨rfl, hr7, ht7⟩
  have hs7 := ht7.size
  simp at hs7
  have hm7 := (hm6.below ((Below.refl _ _).alloc (Nat.le_refl _) _)).touch ht7 hpb hbb
  have k7 := (k6.alloc k6.size _).trans (ht7.below (by have := k6.size; simp; omega) (fun j hj => by omega))
  obtain ⟨V, hV⟩ : ∃ V, V = tabW (fun _ => 0) n := ⟨_, rfl⟩
  have hr7' : RefIn w7 pr br n V := by rw [hV]; exact hr7
  rw [← hV] at hm7
  clear hr7 hV
  go_wp2_with (fail)
  rw [rounds_succ]
  go_wp2_with (fail)
  -- LOOPS
  go_loopw [13] (fun i wr => ∃ (k : Nat) (W : Nat → Int), k ≤ len ∧ k ≤ 60 ∧ i = .int .i64 k ∧ MemIn wr pm bk n W ∧ RefIn wr pr br n W ∧ Below w.heap.size w wr) (fun i _ => 60 - (intOf i).toNat)
  case atStart => exact ⟨0, V, by omega, by omega, rfl, hm7, hr7', k7⟩
  case round =>
    obtain ⟨k, W, hkl, hk60, rfl, hmr, hrr, kr⟩ := hrel
    by_cases hlt : k < len ∧ k < 60
    · obtain ⟨hlt, hl60⟩ := hlt
      rcases hl with h0 | ⟨b, off, rfl, hbl, hops⟩
      · omega
      obtain ⟨ox0, ox1, ox2, ox3⟩ := hok k hlt
      obtain ⟨o0, o1, o2, o3, o4, o5, o6, o7⟩ := (hops.below kr hbl) k hlt
      have hbr' : b < wr.heap.size := by have := kr.size; omega
      have hA : 0 ≤ bits .and .i64 (L k).f 255 ∧ bits .and .i64 (L k).f 255 ≤ 255 := and_bd _ 255 (by omega)
      have hB : 0 ≤ bits .and .i64 (L k).p 15 ∧ bits .and .i64 (L k).p 15 ≤ 15 := and_bd _ 15 (by omega)
      obtain ⟨hA0, hA1⟩ := hA
      obtain ⟨hB0, hB1⟩ := hB
      have hx0 := ox3.1
      have hx1 := ox3.2
      obtain ⟨wa, hwa⟩ : ∃ wa, wa = wr.alloc (.cells #[.int .i64 (L k).f, .int .i64 (L k).p, .bool (L k).v, .bool (L k).wr, .bool (L k).tb, .int .i64 (L k).fr, .bool (L k).raw, .int .u64 (L k).x] 52) := ⟨_, rfl⟩
      have hza : wr.heap.size < wa.heap.size := by rw [hwa]; simp
      have a0 : wa.cell? ⟨wr.heap.size, 0, none⟩ = some (.int .i64 (L k).f) := by rw [hwa]; simp [go_sem]
      have a1 : wa.cell? ⟨wr.heap.size, 1, none⟩ = some (.int .i64 (L k).p) := by rw [hwa]; simp [go_sem]
      have a2 : wa.cell? ⟨wr.heap.size, 2, none⟩ = some (.bool (L k).v) := by rw [hwa]; simp [go_sem]
      have a3 : wa.cell? ⟨wr.heap.size, 3, none⟩ = some (.bool (L k).wr) := by rw [hwa]; simp [go_sem]
      have a4 : wa.cell? ⟨wr.heap.size, 4, none⟩ = some (.bool (L k).tb) := by rw [hwa]; simp [go_sem]
      have a5 : wa.cell? ⟨wr.heap.size, 5, none⟩ = some (.int .i64 (L k).fr) := by rw [hwa]; simp [go_sem]
      have a6 : wa.cell? ⟨wr.heap.size, 6, none⟩ = some (.bool (L k).raw) := by rw [hwa]; simp [go_sem]
      have a7 : wa.cell? ⟨wr.heap.size, 7, none⟩ = some (.int .u64 (L k).x) := by rw [hwa]; simp [go_sem]
      have hwab : Below wr.heap.size wr wa := by rw [hwa]; exact (Below.refl _ _).alloc (Nat.le_refl _) _
      have hma := hmr.below hwab
      have hra := hrr.below hwab
      have ka := kr.trans (hwab.mono kr.size)
      have nbk : ¬ wr.heap.size = bk := by have := hmr.bk_lt; omega
      have nbr : ¬ wr.heap.size = br := by have := hrr.br_lt; omega
      cases hraw : (L k).raw
      · skip
        rw [hraw] at o6 a6 hwa
        go_wp2_with (fail)
        rw [← hwa]
        clear hwa
        have hcT : ∀ w', Touch (fun j => j = bk ∨ j = br) wa w' → w'.cell? ⟨wr.heap.size, 0, none⟩ = some (.int .i64 (L k).f) ∧ w'.cell? ⟨wr.heap.size, 1, none⟩ = some (.int .i64 (L k).p) ∧ w'.cell? ⟨wr.heap.size, 2, none⟩ = some (.bool (L k).v) ∧ w'.cell? ⟨wr.heap.size, 3, none⟩ = some (.bool (L k).wr) ∧ w'.cell? ⟨wr.heap.size, 4, none⟩ = some (.bool (L k).tb) ∧ w'.cell? ⟨wr.heap.size, 5, none⟩ = some (.int .i64 (L k).fr) := fun w' h => ⟨keepT h hza (by omega) a0, keepT h hza (by omega) a1, keepT h hza (by omega) a2, keepT h hza (by omega) a3, keepT h hza (by omega) a4, keepT h hza (by omega) a5⟩
        have hT0 : Touch (fun j => j = bk ∨ j = br) wa wa.drew := (Touch.refl _ _).drew
        go_region_held3 (fun w' => w'.cell? ⟨wr.heap.size, 0, none⟩ = some (.int .i64 (L k).f) ∧ w'.cell? ⟨wr.heap.size, 1, none⟩ = some (.int .i64 (L k).p) ∧ w'.cell? ⟨wr.heap.size, 2, none⟩ = some (.bool (L k).v) ∧ w'.cell? ⟨wr.heap.size, 3, none⟩ = some (.bool (L k).wr) ∧ w'.cell? ⟨wr.heap.size, 4, none⟩ = some (.bool (L k).tb) ∧ w'.cell? ⟨wr.heap.size, 5, none⟩ = some (.int .i64 (L k).fr)) (exact hcT _ (by assumption))
          (first
            | (go_at_call 29; refine (put_any pm bk _ _ _ _ _ _ _ _ _ (hma.below (by repeat (first | with_reducible exact Below.refl _ _ | with_reducible assumption | with_reducible refine Below.alloc ?_ (by first | omega | (simp <;> omega)) _ | with_reducible refine below_drewN ?_ _ | with_reducible refine Below.drew ?_ | with_reducible refine Below.setCell ?_ (by first | omega | (simp <;> omega)) _)))).mono ?_; rintro e wb ⟨rfl, hmb, htb⟩; have htb2 : Touch (· = bk) wa wb := Touch.trans ((Touch.refl _ _).drew) htb; have htb' : Touch (fun j => j = bk ∨ j = br) wa wb := htb2.mono (fun _ _ h => Or.inl h); have hrb' := hra.touch htb2 hqb hrb)
            | (go_at_call 26; refine (r07_put pr br _ _ _ _ _ _ _ _ _ (by assumption)).mono ?_; rintro e wc ⟨rfl, hrc, htc⟩; have htc' := htb'.trans (htc.mono (fun _ _ h => Or.inr h))))
        have zb := htb2.size
        have zc := htc.size
        have kb := ka.trans (htb2.below ka.size (fun j hj => by omega))
        have hmc := hmb.touch htc hpb hbb
        have kc := kb.trans (htc.below kb.size (fun j hj => by omega))
        have a0 : wc.cell? ⟨wr.heap.size, 0, none⟩ = some (.int .i64 (L k).f) := keepT htc' hza (by omega) a0
        have a1 : wc.cell? ⟨wr.heap.size, 1, none⟩ = some (.int .i64 (L k).p) := keepT htc' hza (by omega) a1
        have a2 : wc.cell? ⟨wr.heap.size, 2, none⟩ = some (.bool (L k).v) := keepT htc' hza (by omega) a2
        have a3 : wc.cell? ⟨wr.heap.size, 3, none⟩ = some (.bool (L k).wr) := keepT htc' hza (by omega) a3
        have a4 : wc.cell? ⟨wr.heap.size, 4, none⟩ = some (.bool (L k).tb) := keepT htc' hza (by omega) a4
        have a5 : wc.cell? ⟨wr.heap.size, 5, none⟩ = some (.int .i64 (L k).fr) := keepT htc' hza (by omega) a5
        have a6 : wc.cell? ⟨wr.heap.size, 6, none⟩ = some (.bool false) := keepT htc' hza (by omega) a6
        have a7 : wc.cell? ⟨wr.heap.size, 7, none⟩ = some (.int .u64 (L k).x) := keepT htc' hza (by omega) a7
        obtain ⟨W', hW'⟩ : ∃ W', W' = putW W n (L k).f (L k).p (L k).v (L k).wr (L k).tb (L k).fr := ⟨_, rfl⟩
        rw [← hW'] at hmc hrc
        clear hW'
        go_wp2_with (fail)
        refine (get_any pm bk _ _ _ _ _ hmc).mono ?_
        rintro e wd ⟨rfl, hbd⟩
        have zd := hbd.size
        have hmd := hmc.below hbd
        have hrd := hrc.below hbd
        have kd := kc.trans (hbd.mono kc.size)
        have a0 : wd.cell? ⟨wr.heap.size, 0, none⟩ = some (.int .i64 (L k).f) := keep hbd (by omega) a0
        have a1 : wd.cell? ⟨wr.heap.size, 1, none⟩ = some (.int .i64 (L k).p) := keep hbd (by omega) a1
        have a2 : wd.cell? ⟨wr.heap.size, 2, none⟩ = some (.bool (L k).v) := keep hbd (by omega) a2
        have a3 : wd.cell? ⟨wr.heap.size, 3, none⟩ = some (.bool (L k).wr) := keep hbd (by omega) a3
        have a4 : wd.cell? ⟨wr.heap.size, 4, none⟩ = some (.bool (L k).tb) := keep hbd (by omega) a4
        have a5 : wd.cell? ⟨wr.heap.size, 5, none⟩ = some (.int .i64 (L k).fr) := keep hbd (by omega) a5
        have a6 : wd.cell? ⟨wr.heap.size, 6, none⟩ = some (.bool false) := keep hbd (by omega) a6
        have a7 : wd.cell? ⟨wr.heap.size, 7, none⟩ = some (.int .u64 (L k).x) := keep hbd (by omega) a7
        obtain ⟨we, hwe⟩ : ∃ we, we = wd.alloc (.cells #[.bool (gV W' n (L k).f (L k).p), .bool (gW W' n (L k).f (L k).p), .bool (gT W' n (L k).f (L k).p), .int .i64 (gF W' n (L k).f (L k).p)] 34) := ⟨_, rfl⟩
        have hbe : Below wd.heap.size wd we := by rw [hwe]; exact (Below.refl _ _).alloc (Nat.le_refl _) _
        have ze : wd.heap.size < we.heap.size := by rw [hwe]; simp
        have x0 : we.cell? ⟨wd.heap.size, 0, none⟩ = some (.bool (gV W' n (L k).f (L k).p)) := by rw [hwe]; simp [go_sem]
        have x1 : we.cell? ⟨wd.heap.size, 1, none⟩ = some (.bool (gW W' n (L k).f (L k).p)) := by rw [hwe]; simp [go_sem]
        have x2 : we.cell? ⟨wd.heap.size, 2, none⟩ = some (.bool (gT W' n (L k).f (L k).p)) := by rw [hwe]; simp [go_sem]
        have x3 : we.cell? ⟨wd.heap.size, 3, none⟩ = some (.int .i64 (gF W' n (L k).f (L k).p)) := by rw [hwe]; simp [go_sem]
        have a0 : we.cell? ⟨wr.heap.size, 0, none⟩ = some (.int .i64 (L k).f) := keep hbe (by omega) a0
        have a1 : we.cell? ⟨wr.heap.size, 1, none⟩ = some (.int .i64 (L k).p) := keep hbe (by omega) a1
        have a2 : we.cell? ⟨wr.heap.size, 2, none⟩ = some (.bool (L k).v) := keep hbe (by omega) a2
        have a3 : we.cell? ⟨wr.heap.size, 3, none⟩ = some (.bool (L k).wr) := keep hbe (by omega) a3
        have a4 : we.cell? ⟨wr.heap.size, 4, none⟩ = some (.bool (L k).tb) := keep hbe (by omega) a4
        have a5 : we.cell? ⟨wr.heap.size, 5, none⟩ = some (.int .i64 (L k).fr) := keep hbe (by omega) a5
        have a6 : we.cell? ⟨wr.heap.size, 6, none⟩ = some (.bool false) := keep hbe (by omega) a6
        have a7 : we.cell? ⟨wr.heap.size, 7, none⟩ = some (.int .u64 (L k).x) := keep hbe (by omega) a7
        have qd : wr.heap.size < wd.heap.size := by omega
        have hme := hmd.below hbe
        have hre := hrd.below hbe
        have ke := kd.trans (hbe.mono kd.size)
        go_wp2_with (fail)
        rw [← hwe]
        clear hwe
        refine (r07_get pr br _ _ _ _ _ hre).mono ?_
        rintro e wf ⟨rfl, hbf⟩
        have zf := hbf.size
        have hmf := hme.below hbf
        have hrf := hre.below hbf
        have kf := ke.trans (hbf.mono ke.size)
        have a0 : wf.cell? ⟨wr.heap.size, 0, none⟩ = some (.int .i64 (L k).f) := keep hbf (by omega) a0
        have a1 : wf.cell? ⟨wr.heap.size, 1, none⟩ = some (.int .i64 (L k).p) := keep hbf (by omega) a1
        have a2 : wf.cell? ⟨wr.heap.size, 2, none⟩ = some (.bool (L k).v) := keep hbf (by omega) a2
        have a3 : wf.cell? ⟨wr.heap.size, 3, none⟩ = some (.bool (L k).wr) := keep hbf (by omega) a3
        have a4 : wf.cell? ⟨wr.heap.size, 4, none⟩ = some (.bool (L k).tb) := keep hbf (by omega) a4
        have a5 : wf.cell? ⟨wr.heap.size, 5, none⟩ = some (.int .i64 (L k).fr) := keep hbf (by omega) a5
        have a6 : wf.cell? ⟨wr.heap.size, 6, none⟩ = some (.bool false) := keep hbf (by omega) a6
        have a7 : wf.cell? ⟨wr.heap.size, 7, none⟩ = some (.int .u64 (L k).x) := keep hbf (by omega) a7
        have x0 : wf.cell? ⟨wd.heap.size, 0, none⟩ = some (.bool (gV W' n (L k).f (L k).p)) := keep hbf (by omega) x0
        have x1 : wf.cell? ⟨wd.heap.size, 1, none⟩ = some (.bool (gW W' n (L k).f (L k).p)) := keep hbf (by omega) x1
        have x2 : wf.cell? ⟨wd.heap.size, 2, none⟩ = some (.bool (gT W' n (L k).f (L k).p)) := keep hbf (by omega) x2
        have x3 : wf.cell? ⟨wd.heap.size, 3, none⟩ = some (.int .i64 (gF W' n (L k).f (L k).p)) := keep hbf (by omega) x3
        obtain ⟨wg, hwg⟩ : ∃ wg, wg = wf.alloc (.cells #[.bool (gV W' n (L k).f (L k).p), .bool (gW W' n (L k).f (L k).p), .bool (gT W' n (L k).f (L k).p), .int .i64 (gF W' n (L k).f (L k).p)] 34) := ⟨_, rfl⟩
        have hbg : Below wf.heap.size wf wg := by rw [hwg]; exact (Below.refl _ _).alloc (Nat.le_refl _) _
        have zg : wf.heap.size < wg.heap.size := by rw [hwg]; simp
        have y0 : wg.cell? ⟨wf.heap.size, 0, none⟩ = some (.bool (gV W' n (L k).f (L k).p)) := by rw [hwg]; simp [go_sem]
        have y1 : wg.cell? ⟨wf.heap.size, 1, none⟩ = some (.bool (gW W' n (L k).f (L k).p)) := by rw [hwg]; simp [go_sem]
        have y2 : wg.cell? ⟨wf.heap.size, 2, none⟩ = some (.bool (gT W' n (L k).f (L k).p)) := by rw [hwg]; simp [go_sem]
        have y3 : wg.cell? ⟨wf.heap.size, 3, none⟩ = some (.int .i64 (gF W' n (L k).f (L k).p)) := by rw [hwg]; simp [go_sem]
        have a0 : wg.cell? ⟨wr.heap.size, 0, none⟩ = some (.int .i64 (L k).f) := keep hbg (by omega) a0
        have a1 : wg.cell? ⟨wr.heap.size, 1, none⟩ = some (.int .i64 (L k).p) := keep hbg (by omega) a1
        have a2 : wg.cell? ⟨wr.heap.size, 2, none⟩ = some (.bool (L k).v) := keep hbg (by omega) a2
        have a3 : wg.cell? ⟨wr.heap.size, 3, none⟩ = some (.bool (L k).wr) := keep hbg (by omega) a3
        have a4 : wg.cell? ⟨wr.heap.size, 4, none⟩ = some (.bool (L k).tb) := keep hbg (by omega) a4
        have a5 : wg.cell? ⟨wr.heap.size, 5, none⟩ = some (.int .i64 (L k).fr) := keep hbg (by omega) a5
        have a6 : wg.cell? ⟨wr.heap.size, 6, none⟩ = some (.bool false) := keep hbg (by omega) a6
        have a7 : wg.cell? ⟨wr.heap.size, 7, none⟩ = some (.int .u64 (L k).x) := keep hbg (by omega) a7
        have x0 : wg.cell? ⟨wd.heap.size, 0, none⟩ = some (.bool (gV W' n (L k).f (L k).p)) := keep hbg (by omega) x0
        have x1 : wg.cell? ⟨wd.heap.size, 1, none⟩ = some (.bool (gW W' n (L k).f (L k).p)) := keep hbg (by omega) x1
        have x2 : wg.cell? ⟨wd.heap.size, 2, none⟩ = some (.bool (gT W' n (L k).f (L k).p)) := keep hbg (by omega) x2
        have x3 : wg.cell? ⟨wd.heap.size, 3, none⟩ = some (.int .i64 (gF W' n (L k).f (L k).p)) := keep hbg (by omega) x3
        have qf : wr.heap.size < wf.heap.size := by omega
        have qf2 : wd.heap.size < wf.heap.size := by omega
        have hmg := hmf.below hbg
        have hrg := hrf.below hbg
        have kg := kf.trans (hbg.mono kf.size)
        have hmG : ∀ w', Below wg.heap.size wg w' → MemIn w' pm bk n W' := fun w' h => hmg.below h
        have hrG : ∀ w', Below wg.heap.size wg w' → RefIn w' pr br n W' := fun w' h => hrg.below h
        have hcS : ∀ w', Below wg.heap.size wg w' → w'.cell? ⟨wr.heap.size, 0, none⟩ = some (.int .i64 (L k).f) ∧ w'.cell? ⟨wd.heap.size, 0, none⟩ = some (.bool (gV W' n (L k).f (L k).p)) ∧ w'.cell? ⟨wd.heap.size, 1, none⟩ = some (.bool (gW W' n (L k).f (L k).p)) ∧ w'.cell? ⟨wd.heap.size, 2, none⟩ = some (.bool (gT W' n (L k).f (L k).p)) ∧ w'.cell? ⟨wd.heap.size, 3, none⟩ = some (.int .i64 (gF W' n (L k).f (L k).p)) ∧ w'.cell? ⟨wf.heap.size, 0, none⟩ = some (.bool (gV W' n (L k).f (L k).p)) ∧ w'.cell? ⟨wf.heap.size, 1, none⟩ = some (.bool (gW W' n (L k).f (L k).p)) ∧ w'.cell? ⟨wf.heap.size, 2, none⟩ = some (.bool (gT W' n (L k).f (L k).p)) ∧ w'.cell? ⟨wf.heap.size, 3, none⟩ = some (.int .i64 (gF W' n (L k).f (L k).p)) := fun w' h => ⟨keep h (by omega) a0, keep h (by omega) x0, keep h (by omega) x1, keep h (by omega) x2, keep h (by omega) x3, keep h zg y0, keep h zg y1, keep h zg y2, keep h zg y3⟩
        go_wp2_with (fail)
        rw [← hwg]
        clear hwg
        go_region_held3 (fun w' => w'.cell? ⟨wr.heap.size, 0, none⟩ = some (.int .i64 (L k).f) ∧ w'.cell? ⟨wd.heap.size, 0, none⟩ = some (.bool (gV W' n (L k).f (L k).p)) ∧ w'.cell? ⟨wd.heap.size, 1, none⟩ = some (.bool (gW W' n (L k).f (L k).p)) ∧ w'.cell? ⟨wd.heap.size, 2, none⟩ = some (.bool (gT W' n (L k).f (L k).p)) ∧ w'.cell? ⟨wd.heap.size, 3, none⟩ = some (.int .i64 (gF W' n (L k).f (L k).p)) ∧ w'.cell? ⟨wf.heap.size, 0, none⟩ = some (.bool (gV W' n (L k).f (L k).p)) ∧ w'.cell? ⟨wf.heap.size, 1, none⟩ = some (.bool (gW W' n (L k).f (L k).p)) ∧ w'.cell? ⟨wf.heap.size, 2, none⟩ = some (.bool (gT W' n (L k).f (L k).p)) ∧ w'.cell? ⟨wf.heap.size, 3, none⟩ = some (.int .i64 (gF W' n (L k).f (L k).p))) (exact hcS _ (by repeat (first | with_reducible exact Below.refl _ _ | with_reducible assumption | with_reducible refine Below.alloc ?_ (by first | omega | (simp <;> omega)) _ | with_reducible refine below_drewN ?_ _ | with_reducible refine Below.drew ?_ | with_reducible refine Below.setCell ?_ (by first | omega | (simp <;> omega)) _)))
          (first
            | (go_at_call 32; refine (blank_any pm bk _ _ _ _ (hmG _ (by repeat (first | with_reducible exact Below.refl _ _ | with_reducible assumption | with_reducible refine Below.alloc ?_ (by first | omega | (simp <;> omega)) _ | with_reducible refine below_drewN ?_ _ | with_reducible refine Below.drew ?_ | with_reducible refine Below.setCell ?_ (by first | omega | (simp <;> omega)) _)))).mono ?_; rintro e wh ⟨rfl, hbh⟩; have hbh' : Below wg.heap.size wg wh := Below.trans (by repeat (first | with_reducible exact Below.refl _ _ | with_reducible assumption | with_reducible refine Below.alloc ?_ (by first | omega | (simp <;> omega)) _ | with_reducible refine below_drewN ?_ _ | with_reducible refine Below.drew ?_ | with_reducible refine Below.setCell ?_ (by first | omega | (simp <;> omega)) _)) (hbh.mono (by simp)); have hzh := hbh'.size)
            | (go_at_call 33; refine (r07_blank pr br _ _ _ _ (hrG _ (by repeat (first | with_reducible exact Below.refl _ _ | with_reducible assumption | with_reducible refine Below.alloc ?_ (by first | omega | (simp <;> omega)) _ | with_reducible refine below_drewN ?_ _ | with_reducible refine Below.drew ?_ | with_reducible refine Below.setCell ?_ (by first | omega | (simp <;> omega)) _)))).mono ?_; rintro e wi ⟨rfl, rfl⟩))
        all_goals go_wp2_with (fail)
        all_goals go_roundw
        case rel => exact ⟨k + 1, W', by omega, by omega, by go_num, hmG _ (by repeat (first | with_reducible exact Below.refl _ _ | with_reducible assumption | with_reducible refine Below.alloc ?_ (by first | omega | (simp <;> omega)) _ | with_reducible refine below_drewN ?_ _ | with_reducible refine Below.drew ?_ | with_reducible refine Below.setCell ?_ (by first | omega | (simp <;> omega)) _)), hrG _ (by repeat (first | with_reducible exact Below.refl _ _ | with_reducible assumption | with_reducible refine Below.alloc ?_ (by first | omega | (simp <;> omega)) _ | with_reducible refine below_drewN ?_ _ | with_reducible refine Below.drew ?_ | with_reducible refine Below.setCell ?_ (by first | omega | (simp <;> omega)) _)), kg.trans (Below.mono (B := wg.heap.size) (by repeat (first | with_reducible exact Below.refl _ _ | with_reducible assumption | with_reducible refine Below.alloc ?_ (by first | omega | (simp <;> omega)) _ | with_reducible refine below_drewN ?_ _ | with_reducible refine Below.drew ?_ | with_reducible refine Below.setCell ?_ (by first | omega | (simp <;> omega)) _)) kg.size)⟩
        case measure => simp [intOf]; omega
      · skip
        rw [hraw] at o6 a6 hwa
        go_wp2_with (fail)
        rw [← hwa]
        refine (write_any pm bk _ _ _ _ _ hma hx0 (by omega)).mono ?_
        rintro e wb ⟨rfl, hmb, htb⟩
        have zb := htb.size
        have hrb' := hra.touch htb hqb hrb
        have kb := ka.trans (htb.below ka.size (fun j hj => by omega))
        have a0 : wb.cell? ⟨wr.heap.size, 0, none⟩ = some (.int .i64 (L k).f) := keepT htb hza nbk a0
        have a1 : wb.cell? ⟨wr.heap.size, 1, none⟩ = some (.int .i64 (L k).p) := keepT htb hza nbk a1
        have a2 : wb.cell? ⟨wr.heap.size, 2, none⟩ = some (.bool (L k).v) := keepT htb hza nbk a2
        have a3 : wb.cell? ⟨wr.heap.size, 3, none⟩ = some (.bool (L k).wr) := keepT htb hza nbk a3
        have a4 : wb.cell? ⟨wr.heap.size, 4, none⟩ = some (.bool (L k).tb) := keepT htb hza nbk a4
        have a5 : wb.cell? ⟨wr.heap.size, 5, none⟩ = some (.int .i64 (L k).fr) := keepT htb hza nbk a5
        have a6 : wb.cell? ⟨wr.heap.size, 6, none⟩ = some (.bool true) := keepT htb hza nbk a6
        have a7 : wb.cell? ⟨wr.heap.size, 7, none⟩ = some (.int .u64 (L k).x) := keepT htb hza nbk a7
        go_wp2_with (fail)
        refine (r02_write pr br _ _ _ _ _ hrb' hx0 (by omega)).mono ?_
        rintro e wc ⟨rfl, hrc, htc⟩
        have zc := htc.size
        have hmc := hmb.touch htc hpb hbb
        have kc := kb.trans (htc.below kb.size (fun j hj => by omega))
        have a0 : wc.cell? ⟨wr.heap.size, 0, none⟩ = some (.int .i64 (L k).f) := keepT htc (by omega) nbr a0
        have a1 : wc.cell? ⟨wr.heap.size, 1, none⟩ = some (.int .i64 (L k).p) := keepT htc (by omega) nbr a1
        have a2 : wc.cell? ⟨wr.heap.size, 2, none⟩ = some (.bool (L k).v) := keepT htc (by omega) nbr a2
        have a3 : wc.cell? ⟨wr.heap.size, 3, none⟩ = some (.bool (L k).wr) := keepT htc (by omega) nbr a3
        have a4 : wc.cell? ⟨wr.heap.size, 4, none⟩ = some (.bool (L k).tb) := keepT htc (by omega) nbr a4
        have a5 : wc.cell? ⟨wr.heap.size, 5, none⟩ = some (.int .i64 (L k).fr) := keepT htc (by omega) nbr a5
        have a6 : wc.cell? ⟨wr.heap.size, 6, none⟩ = some (.bool true) := keepT htc (by omega) nbr a6
        have a7 : wc.cell? ⟨wr.heap.size, 7, none⟩ = some (.int .u64 (L k).x) := keepT htc (by omega) nbr a7
        obtain ⟨W', hW'⟩ : ∃ W', W' = writeW W n (16 * bits .and .i64 (L k).f 255 + bits .and .i64 (L k).p 15) (L k).x := ⟨_, rfl⟩
        rw [← hW'] at hmc hrc
        clear hW'
        go_wp2_with (fail)
        refine (get_any pm bk _ _ _ _ _ hmc).mono ?_
        rintro e wd ⟨rfl, hbd⟩
        have zd := hbd.size
        have hmd := hmc.below hbd
        have hrd := hrc.below hbd
        have kd := kc.trans (hbd.mono kc.size)
        have a0 : wd.cell? ⟨wr.heap.size, 0, none⟩ = some (.int .i64 (L k).f) := keep hbd (by omega) a0
        have a1 : wd.cell? ⟨wr.heap.size, 1, none⟩ = some (.int .i64 (L k).p) := keep hbd (by omega) a1
        have a2 : wd.cell? ⟨wr.heap.size, 2, none⟩ = some (.bool (L k).v) := keep hbd (by omega) a2
        have a3 : wd.cell? ⟨wr.heap.size, 3, none⟩ = some (.bool (L k).wr) := keep hbd (by omega) a3
        have a4 : wd.cell? ⟨wr.heap.size, 4, none⟩ = some (.bool (L k).tb) := keep hbd (by omega) a4
        have a5 : wd.cell? ⟨wr.heap.size, 5, none⟩ = some (.int .i64 (L k).fr) := keep hbd (by omega) a5
        have a6 : wd.cell? ⟨wr.heap.size, 6, none⟩ = some (.bool true) := keep hbd (by omega) a6
        have a7 : wd.cell? ⟨wr.heap.size, 7, none⟩ = some (.int .u64 (L k).x) := keep hbd (by omega) a7
        obtain ⟨we, hwe⟩ : ∃ we, we = wd.alloc (.cells #[.bool (gV W' n (L k).f (L k).p), .bool (gW W' n (L k).f (L k).p), .bool (gT W' n (L k).f (L k).p), .int .i64 (gF W' n (L k).f (L k).p)] 34) := ⟨_, rfl⟩
        have hbe : Below wd.heap.size wd we := by rw [hwe]; exact (Below.refl _ _).alloc (Nat.le_refl _) _
        have ze : wd.heap.size < we.heap.size := by rw [hwe]; simp
        have x0 : we.cell? ⟨wd.heap.size, 0, none⟩ = some (.bool (gV W' n (L k).f (L k).p)) := by rw [hwe]; simp [go_sem]
        have x1 : we.cell? ⟨wd.heap.size, 1, none⟩ = some (.bool (gW W' n (L k).f (L k).p)) := by rw [hwe]; simp [go_sem]
        have x2 : we.cell? ⟨wd.heap.size, 2, none⟩ = some (.bool (gT W' n (L k).f (L k).p)) := by rw [hwe]; simp [go_sem]
        have x3 : we.cell? ⟨wd.heap.size, 3, none⟩ = some (.int .i64 (gF W' n (L k).f (L k).p)) := by rw [hwe]; simp [go_sem]
        have a0 : we.cell? ⟨wr.heap.size, 0, none⟩ = some (.int .i64 (L k).f) := keep hbe (by omega) a0
        have a1 : we.cell? ⟨wr.heap.size, 1, none⟩ = some (.int .i64 (L k).p) := keep hbe (by omega) a1
        have a2 : we.cell? ⟨wr.heap.size, 2, none⟩ = some (.bool (L k).v) := keep hbe (by omega) a2
        have a3 : we.cell? ⟨wr.heap.size, 3, none⟩ = some (.bool (L k).wr) := keep hbe (by omega) a3
        have a4 : we.cell? ⟨wr.heap.size, 4, none⟩ = some (.bool (L k).tb) := keep hbe (by omega) a4
        have a5 : we.cell? ⟨wr.heap.size, 5, none⟩ = some (.int .i64 (L k).fr) := keep hbe (by omega) a5
        have a6 : we.cell? ⟨wr.heap.size, 6, none⟩ = some (.bool true) := keep hbe (by omega) a6
        have a7 : we.cell? ⟨wr.heap.size, 7, none⟩ = some (.int .u64 (L k).x) := keep hbe (by omega) a7
        have qd : wr.heap.size < wd.heap.size := by omega
        have hme := hmd.below hbe
        have hre := hrd.below hbe
        have ke := kd.trans (hbe.mono kd.size)
        go_wp2_with (fail)
        rw [← hwe]
        clear hwe
        refine (r07_get pr br _ _ _ _ _ hre).mono ?_
        rintro e wf ⟨rfl, hbf⟩
        have zf := hbf.size
        have hmf := hme.below hbf
        have hrf := hre.below hbf
        have kf := ke.trans (hbf.mono ke.size)
        have a0 : wf.cell? ⟨wr.heap.size, 0, none⟩ = some (.int .i64 (L k).f) := keep hbf (by omega) a0
        have a1 : wf.cell? ⟨wr.heap.size, 1, none⟩ = some (.int .i64 (L k).p) := keep hbf (by omega) a1
        have a2 : wf.cell? ⟨wr.heap.size, 2, none⟩ = some (.bool (L k).v) := keep hbf (by omega) a2
        have a3 : wf.cell? ⟨wr.heap.size, 3, none⟩ = some (.bool (L k).wr) := keep hbf (by omega) a3
        have a4 : wf.cell? ⟨wr.heap.size, 4, none⟩ = some (.bool (L k).tb) := keep hbf (by omega) a4
        have a5 : wf.cell? ⟨wr.heap.size, 5, none⟩ = some (.int .i64 (L k).fr) := keep hbf (by omega) a5
        have a6 : wf.cell? ⟨wr.heap.size, 6, none⟩ = some (.bool true) := keep hbf (by omega) a6
        have a7 : wf.cell? ⟨wr.heap.size, 7, none⟩ = some (.int .u64 (L k).x) := keep hbf (by omega) a7
        have x0 : wf.cell? ⟨wd.heap.size, 0, none⟩ = some (.bool (gV W' n (L k).f (L k).p)) := keep hbf (by omega) x0
        have x1 : wf.cell? ⟨wd.heap.size, 1, none⟩ = some (.bool (gW W' n (L k).f (L k).p)) := keep hbf (by omega) x1
        have x2 : wf.cell? ⟨wd.heap.size, 2, none⟩ = some (.bool (gT W' n (L k).f (L k).p)) := keep hbf (by omega) x2
        have x3 : wf.cell? ⟨wd.heap.size, 3, none⟩ = some (.int .i64 (gF W' n (L k).f (L k).p)) := keep hbf (by omega) x3
        obtain ⟨wg, hwg⟩ : ∃ wg, wg = wf.alloc (.cells #[.bool (gV W' n (L k).f (L k).p), .bool (gW W' n (L k).f (L k).p), .bool (gT W' n (L k).f (L k).p), .int .i64 (gF W' n (L k).f (L k).p)] 34) := ⟨_, rfl⟩
        have hbg : Below wf.heap.size wf wg := by rw [hwg]; exact (Below.refl _ _).alloc (Nat.le_refl _) _
        have zg : wf.heap.size < wg.heap.size := by rw [hwg]; simp
        have y0 : wg.cell? ⟨wf.heap.size, 0, none⟩ = some (.bool (gV W' n (L k).f (L k).p)) := by rw [hwg]; simp [go_sem]
        have y1 : wg.cell? ⟨wf.heap.size, 1, none⟩ = some (.bool (gW W' n (L k).f (L k).p)) := by rw [hwg]; simp [go_sem]
        have y2 : wg.cell? ⟨wf.heap.size, 2, none⟩ = some (.bool (gT W' n (L k).f (L k).p)) := by rw [hwg]; simp [go_sem]
        have y3 : wg.cell? ⟨wf.heap.size, 3, none⟩ = some (.int .i64 (gF W' n (L k).f (L k).p)) := by rw [hwg]; simp [go_sem]
        have a0 : wg.cell? ⟨wr.heap.size, 0, none⟩ = some (.int .i64 (L k).f) := keep hbg (by omega) a0
        have a1 : wg.cell? ⟨wr.heap.size, 1, none⟩ = some (.int .i64 (L k).p) := keep hbg (by omega) a1
        have a2 : wg.cell? ⟨wr.heap.size, 2, none⟩ = some (.bool (L k).v) := keep hbg (by omega) a2
        have a3 : wg.cell? ⟨wr.heap.size, 3, none⟩ = some (.bool (L k).wr) := keep hbg (by omega) a3
        have a4 : wg.cell? ⟨wr.heap.size, 4, none⟩ = some (.bool (L k).tb) := keep hbg (by omega) a4
        have a5 : wg.cell? ⟨wr.heap.size, 5, none⟩ = some (.int .i64 (L k).fr) := keep hbg (by omega) a5
        have a6 : wg.cell? ⟨wr.heap.size, 6, none⟩ = some (.bool true) := keep hbg (by omega) a6
        have a7 : wg.cell? ⟨wr.heap.size, 7, none⟩ = some (.int .u64 (L k).x) := keep hbg (by omega) a7
        have x0 : wg.cell? ⟨wd.heap.size, 0, none⟩ = some (.bool (gV W' n (L k).f (L k).p)) := keep hbg (by omega) x0
        have x1 : wg.cell? ⟨wd.heap.size, 1, none⟩ = some (.bool (gW W' n (L k).f (L k).p)) := keep hbg (by omega) x1
        have x2 : wg.cell? ⟨wd.heap.size, 2, none⟩ = some (.bool (gT W' n (L k).f (L k).p)) := keep hbg (by omega) x2
        have x3 : wg.cell? ⟨wd.heap.size, 3, none⟩ = some (.int .i64 (gF W' n (L k).f (L k).p)) := keep hbg (by omega) x3
        have qf : wr.heap.size < wf.heap.size := by omega
        have qf2 : wd.heap.size < wf.heap.size := by omega
        have hmg := hmf.below hbg
        have hrg := hrf.below hbg
        have kg := kf.trans (hbg.mono kf.size)
        have hmG : ∀ w', Below wg.heap.size wg w' → MemIn w' pm bk n W' := fun w' h => hmg.below h
        have hrG : ∀ w', Below wg.heap.size wg w' → RefIn w' pr br n W' := fun w' h => hrg.below h
        have hcS : ∀ w', Below wg.heap.size wg w' → w'.cell? ⟨wr.heap.size, 0, none⟩ = some (.int .i64 (L k).f) ∧ w'.cell? ⟨wd.heap.size, 0, none⟩ = some (.bool (gV W' n (L k).f (L k).p)) ∧ w'.cell? ⟨wd.heap.size, 1, none⟩ = some (.bool (gW W' n (L k).f (L k).p)) ∧ w'.cell? ⟨wd.heap.size, 2, none⟩ = some (.bool (gT W' n (L k).f (L k).p)) ∧ w'.cell? ⟨wd.heap.size, 3, none⟩ = some (.int .i64 (gF W' n (L k).f (L k).p)) ∧ w'.cell? ⟨wf.heap.size, 0, none⟩ = some (.bool (gV W' n (L k).f (L k).p)) ∧ w'.cell? ⟨wf.heap.size, 1, none⟩ = some (.bool (gW W' n (L k).f (L k).p)) ∧ w'.cell? ⟨wf.heap.size, 2, none⟩ = some (.bool (gT W' n (L k).f (L k).p)) ∧ w'.cell? ⟨wf.heap.size, 3, none⟩ = some (.int .i64 (gF W' n (L k).f (L k).p)) := fun w' h => ⟨keep h (by omega) a0, keep h (by omega) x0, keep h (by omega) x1, keep h (by omega) x2, keep h (by omega) x3, keep h zg y0, keep h zg y1, keep h zg y2, keep h zg y3⟩
        go_wp2_with (fail)
        rw [← hwg]
        clear hwg
        go_region_held3 (fun w' => w'.cell? ⟨wr.heap.size, 0, none⟩ = some (.int .i64 (L k).f) ∧ w'.cell? ⟨wd.heap.size, 0, none⟩ = some (.bool (gV W' n (L k).f (L k).p)) ∧ w'.cell? ⟨wd.heap.size, 1, none⟩ = some (.bool (gW W' n (L k).f (L k).p)) ∧ w'.cell? ⟨wd.heap.size, 2, none⟩ = some (.bool (gT W' n (L k).f (L k).p)) ∧ w'.cell? ⟨wd.heap.size, 3, none⟩ = some (.int .i64 (gF W' n (L k).f (L k).p)) ∧ w'.cell? ⟨wf.heap.size, 0, none⟩ = some (.bool (gV W' n (L k).f (L k).p)) ∧ w'.cell? ⟨wf.heap.size, 1, none⟩ = some (.bool (gW W' n (L k).f (L k).p)) ∧ w'.cell? ⟨wf.heap.size, 2, none⟩ = some (.bool (gT W' n (L k).f (L k).p)) ∧ w'.cell? ⟨wf.heap.size, 3, none⟩ = some (.int .i64 (gF W' n (L k).f (L k).p))) (exact hcS _ (by repeat (first | with_reducible exact Below.refl _ _ | with_reducible assumption | with_reducible refine Below.alloc ?_ (by first | omega | (simp <;> omega)) _ | with_reducible refine below_drewN ?_ _ | with_reducible refine Below.drew ?_ | with_reducible refine Below.setCell ?_ (by first | omega | (simp <;> omega)) _)))
          (first
            | (go_at_call 32; refine (blank_any pm bk _ _ _ _ (hmG _ (by repeat (first | with_reducible exact Below.refl _ _ | with_reducible assumption | with_reducible refine Below.alloc ?_ (by first | omega | (simp <;> omega)) _ | with_reducible refine below_drewN ?_ _ | with_reducible refine Below.drew ?_ | with_reducible refine Below.setCell ?_ (by first | omega | (simp <;> omega)) _)))).mono ?_; rintro e wh ⟨rfl, hbh⟩; have hbh' : Below wg.heap.size wg wh := Below.trans (by repeat (first | with_reducible exact Below.refl _ _ | with_reducible assumption | with_reducible refine Below.alloc ?_ (by first | omega | (simp <;> omega)) _ | with_reducible refine below_drewN ?_ _ | with_reducible refine Below.drew ?_ | with_reducible refine Below.setCell ?_ (by first | omega | (simp <;> omega)) _)) (hbh.mono (by simp)); have hzh := hbh'.size)
            | (go_at_call 33; refine (r07_blank pr br _ _ _ _ (hrG _ (by repeat (first | with_reducible exact Below.refl _ _ | with_reducible assumption | with_reducible refine Below.alloc ?_ (by first | omega | (simp <;> omega)) _ | with_reducible refine below_drewN ?_ _ | with_reducible refine Below.drew ?_ | with_reducible refine Below.setCell ?_ (by first | omega | (simp <;> omega)) _)))).mono ?_; rintro e wi ⟨rfl, rfl⟩))
        all_goals go_wp2_with (fail)
        all_goals go_roundw
        case rel => exact ⟨k + 1, W', by omega, by omega, by go_num, hmG _ (by repeat (first | with_reducible exact Below.refl _ _ | with_reducible assumption | with_reducible refine Below.alloc ?_ (by first | omega | (simp <;> omega)) _ | with_reducible refine below_drewN ?_ _ | with_reducible refine Below.drew ?_ | with_reducible refine Below.setCell ?_ (by first | omega | (simp <;> omega)) _)), hrG _ (by repeat (first | with_reducible exact Below.refl _ _ | with_reducible assumption | with_reducible refine Below.alloc ?_ (by first | omega | (simp <;> omega)) _ | with_reducible refine below_drewN ?_ _ | with_reducible refine Below.drew ?_ | with_reducible refine Below.setCell ?_ (by first | omega | (simp <;> omega)) _)), kg.trans (Below.mono (B := wg.heap.size) (by repeat (first | with_reducible exact Below.refl _ _ | with_reducible assumption | with_reducible refine Below.alloc ?_ (by first | omega | (simp <;> omega)) _ | with_reducible refine below_drewN ?_ _ | with_reducible refine Below.drew ?_ | with_reducible refine Below.setCell ?_ (by first | omega | (simp <;> omega)) _)) kg.size)⟩
        case measure => simp [intOf]; omega
    · have hW := hmr.lo
      have hend : ¬ (k : Int) < (len : Int) ∨ ((k : Int) < (len : Int) ∧ ¬ (k : Int) < 60) := by omega
      rcases hend with hend | ⟨hend, hend2⟩
      all_goals
        go_wp2_with (fail)
        go_loopw [19] (fun i wq => ∃ j : Nat, j ≤ len2 ∧ j ≤ 20 ∧ i = .int .i64 j ∧ MemIn wq pm bk n W ∧ RefIn wq pr br n W ∧ Below w.heap.size w wq) (fun i _ => 20 - (intOf i).toNat)
        case atStart => exact ⟨0, by omega, by omega, rfl, hmr, hrr, kr⟩
        case round =>
          obtain ⟨j, hj, hj20, rfl, hmq, hrq, kq⟩ := hrel
          by_cases hlt2 : j < len2 ∧ j < 20
          · obtain ⟨hlt2, hl20⟩ := hlt2
            rcases hpg with hp0 | ⟨gb, go, rfl, hgb, hpc⟩
            · omega
            have c0 := hpc j hlt2
            generalize Pg j = page at c0
            have hd20 : decide ((j : Int) < 20) = true := by simp; omega
            go_wp2_with (fail)
            go_loopw [20] (fun i wq => ∃ q : Nat, q ≤ 4 ∧ i = .int .i64 ((q : Int) - 1) ∧ MemIn wq pm bk n W ∧ RefIn wq pr br n W ∧ Below w.heap.size w wq) (fun i _ => 4 - (intOf i + 1).toNat)
            case atStart => exact ⟨0, by omega, rfl, hmq, hrq, kq⟩
            case round =>
              obtain ⟨q, hq, rfl, hmi, hri, ki⟩ := hrel
              rename World => wi
              by_cases hq4 : q < 4
              · have c1 := keep ki hgb c0
                have hgi : gb < wi.heap.size := by have := ki.size; omega
                obtain ⟨R, hR⟩ : ∃ R, R = walkM W n ((q : Int) - 1) page := ⟨_, rfl⟩
                have HR := Lib.hid hR
                clear hR
                go_wp2_with (fail)
                refine (walk_any pm bk _ _ _ _ _ hmi R HR.out.symm).mono ?_
                rintro e w8 ⟨sv, rfl, ho8, hb8⟩
                have hm8 := hmi.below hb8
                have hr8 := hri.below hb8
                have k8 := ki.trans (hb8.mono ki.size)
                have c8 := keep hb8 hgi c1
                have z8 := hb8.size
                obtain ⟨sa, scap, rfl, hsa, hsg⟩ := steps_arg ho8 rfl
                obtain ⟨m, hm⟩ : ∃ m, m = R.st.length := ⟨_, rfl⟩
                rw [← hm] at hsa ⊢
                have hm3' : m ≤ 3 := by
                  rw [hm, HR.out]; unfold walkM; split
                  · exact (walkL_st W n page 3 _).1
                  · simp
                have HM := Lib.hid hm
                clear hm
                obtain ⟨w9, hw9⟩ : ∃ w9, w9 = w8.alloc (.cells #[.bool R.v, .bool R.wr, .bool R.tb, .int .i64 R.fr] 34) := ⟨_, rfl⟩
                have hb9 : Below w8.heap.size w8 w9 := by rw [hw9]; exact (Below.refl _ _).alloc (Nat.le_refl _) _
                have z9 : w8.heap.size < w9.heap.size := by rw [hw9]; simp
                have e0 : w9.cell? ⟨w8.heap.size, 0, none⟩ = some (.bool R.v) := by rw [hw9]; simp [go_sem]
                have e1 : w9.cell? ⟨w8.heap.size, 1, none⟩ = some (.bool R.wr) := by rw [hw9]; simp [go_sem]
                have e2 : w9.cell? ⟨w8.heap.size, 2, none⟩ = some (.bool R.tb) := by rw [hw9]; simp [go_sem]
                have e3 : w9.cell? ⟨w8.heap.size, 3, none⟩ = some (.int .i64 R.fr) := by rw [hw9]; simp [go_sem]
                have hm9 := hm8.below hb9
                have hr9 := hr8.below hb9
                have k9 := k8.trans (hb9.mono k8.size)
                have c9 := keep hb9 (by omega) c8
                have c9x := c9
                rw [hw9] at c9x
                have hsa9 := hsa.below hb9
                go_wp2_with (fail)
                rw [← hw9]
                clear hw9
                refine (r07_walk pr br _ _ _ _ _ hr9 R HR.out.symm).mono ?_
                rintro e wA ⟨tv, rfl, hoA, hbA⟩
                have hmA := hm9.below hbA
                have hrA := hr9.below hbA
                have kA := k9.trans (hbA.mono k9.size)
                have zA := hbA.size
                have hsaA := hsa9.below hbA
                obtain ⟨ta, tcap, rfl, hta, htg⟩ := steps_arg hoA rfl
                rw [← HM.out] at hta ⊢
                obtain ⟨wB, hwB⟩ : ∃ wB, wB = wA.alloc (.cells #[.bool R.v, .bool R.wr, .bool R.tb, .int .i64 R.fr] 34) := ⟨_, rfl⟩
                have hbB : Below wA.heap.size wA wB := by rw [hwB]; exact (Below.refl _ _).alloc (Nat.le_refl _) _
                have zB : wA.heap.size < wB.heap.size := by rw [hwB]; simp
                have e0 : wA.cell? ⟨w8.heap.size, 0, none⟩ = some (.bool R.v) := keep hbA (by omega) e0
                have e1 : wA.cell? ⟨w8.heap.size, 1, none⟩ = some (.bool R.wr) := keep hbA (by omega) e1
                have e2 : wA.cell? ⟨w8.heap.size, 2, none⟩ = some (.bool R.tb) := keep hbA (by omega) e2
                have e3 : wA.cell? ⟨w8.heap.size, 3, none⟩ = some (.int .i64 R.fr) := keep hbA (by omega) e3
                have e0 : wB.cell? ⟨w8.heap.size, 0, none⟩ = some (.bool R.v) := keep hbB (by omega) e0
                have e1 : wB.cell? ⟨w8.heap.size, 1, none⟩ = some (.bool R.wr) := keep hbB (by omega) e1
                have e2 : wB.cell? ⟨w8.heap.size, 2, none⟩ = some (.bool R.tb) := keep hbB (by omega) e2
                have e3 : wB.cell? ⟨w8.heap.size, 3, none⟩ = some (.int .i64 R.fr) := keep hbB (by omega) e3
                have f0 : wB.cell? ⟨wA.heap.size, 0, none⟩ = some (.bool R.v) := by rw [hwB]; simp [go_sem]
                have f1 : wB.cell? ⟨wA.heap.size, 1, none⟩ = some (.bool R.wr) := by rw [hwB]; simp [go_sem]
                have f2 : wB.cell? ⟨wA.heap.size, 2, none⟩ = some (.bool R.tb) := by rw [hwB]; simp [go_sem]
                have f3 : wB.cell? ⟨wA.heap.size, 3, none⟩ = some (.int .i64 R.fr) := by rw [hwB]; simp [go_sem]
                have hmB := hmA.below hbB
                have hrB := hrA.below hbB
                have kB := kA.trans (hbB.mono kA.size)
                have hsB := hsaA.below hbB
                have htB := hta.below hbB
                go_wp2_with (fail)
                rw [← hwB]
                clear hwB
                refine (steps_yes _ _ _ _ _ _ _ hsB htB hm3').mono ?_
                rintro e wC ⟨rfl, hbC⟩
                have e0 : wC.cell? ⟨w8.heap.size, 0, none⟩ = some (.bool R.v) := keep hbC (by omega) e0
                have e1 : wC.cell? ⟨w8.heap.size, 1, none⟩ = some (.bool R.wr) := keep hbC (by omega) e1
                have e2 : wC.cell? ⟨w8.heap.size, 2, none⟩ = some (.bool R.tb) := keep hbC (by omega) e2
                have e3 : wC.cell? ⟨w8.heap.size, 3, none⟩ = some (.int .i64 R.fr) := keep hbC (by omega) e3
                have f0 : wC.cell? ⟨wA.heap.size, 0, none⟩ = some (.bool R.v) := keep hbC (by omega) f0
                have f1 : wC.cell? ⟨wA.heap.size, 1, none⟩ = some (.bool R.wr) := keep hbC (by omega) f1
                have f2 : wC.cell? ⟨wA.heap.size, 2, none⟩ = some (.bool R.tb) := keep hbC (by omega) f2
                have f3 : wC.cell? ⟨wA.heap.size, 3, none⟩ = some (.int .i64 R.fr) := keep hbC (by omega) f3
                have hmC := hmB.below hbC
                have hrC := hrB.below hbC
                have kC := kB.trans (hbC.mono kB.size)
                go_wp2_with (fail)
                go_roundw
                case rel => exact ⟨q + 1, by omega, by go_num, hmC, hrC, kC⟩
                case measure => simp [intOf]; omega
              · have hq' : q = 4 := by omega
                subst hq'
                go_wp2_with (fail)
                go_roundw
                case rel => exact ⟨j + 1, by omega, by omega, by go_num, hmi, hri, ki⟩
                case measure => simp [intOf]; omega
          · have hend3 : ¬ (j : Int) < (len2 : Int) ∨ ((j : Int) < (len2 : Int) ∧ ¬ (j : Int) < 20) := by omega
            rcases hend3 with hend3 | ⟨hend3, hend4⟩
            all_goals
              go_wp2_with (fail)
              go_ret
              exact ⟨rfl, kq⟩

end Go.Proofs.Ytnodcmmifbcbiaa
