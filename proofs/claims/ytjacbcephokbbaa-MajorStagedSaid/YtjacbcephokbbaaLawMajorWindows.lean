/- MajorWindows returns true. -/
import Derived.Test.YtjacbcephokbbaaAwake16
import Derived.Test.YtjacbcephokbbaaPlain16
import Derived.Test.YtjacbcephokbbaaClass
namespace Go.Proofs.Ytjacbcephokbbaa
set_option linter.unusedSimpArgs false
set_option linter.unusedVariables false
set_option maxRecDepth 100000
open Go.RowKit
set_option maxHeartbeats 4000000

theorem cell_lt {w : World} {b o : Nat} {v : Value} (h : w.cell? ⟨b, o, none⟩ = some v) : b < w.heap.size := by
  rcases Nat.lt_or_ge b w.heap.size with h' | h'
  · exact h'
  · exfalso
    have := World.cell?_of_block (w := w) (w' := { w with heap := #[] }) (a := ⟨b, o, none⟩) (by rw [Array.getElem?_eq_none h']; rfl)
    rw [h] at this
    simp [World.cell?] at this
theorem SlotsAt.keep {g w : World} {a : Option Addr} {L : List Win} (h : SlotsAt g a L) (hb : Below g.heap.size g w) : SlotsAt w a L := by
  rcases h with h | ⟨b, off, rfl, h⟩
  · exact Or.inl h
  · refine Or.inr ⟨b, off, rfl, fun i hi => ?_⟩
    obtain ⟨h0, h1, h2⟩ := h i hi
    have hl := cell_lt h0
    exact ⟨Go.Proofs.Ytjacbcephokbbaa.keep hb hl h0, Go.Proofs.Ytjacbcephokbbaa.keep hb hl h1, Go.Proofs.Ytjacbcephokbbaa.keep hb hl h2⟩

theorem lens_take (L : List Win) (k : Nat) (h : k < L.length) (i : Int) : lens (L.take (k + 1)) i = lens (L.take k) i + if L[k].p = i then L[k].l else 0 := by
  unfold lens
  rw [List.take_succ_eq_append_getElem h, List.map_append, List.sum_append]
  simp
theorem lens_bd (L : List Win) (i : Int) (B : Int) (h : ∀ x ∈ L, 0 ≤ x.l ∧ x.l ≤ B) : 0 ≤ lens L i ∧ lens L i ≤ B * L.length := by
  induction L with
  | nil => simp [lens]
  | cons x L ih =>
    obtain ⟨h1, h2⟩ := ih fun y hy => h y (List.mem_cons_of_mem _ hy)
    have hx := h x (by simp)
    unfold lens at h1 h2 ⊢
    rw [List.map_cons, List.sum_cons, List.length_cons]
    push_cast
    rw [Int.mul_add]
    split <;> omega
theorem eight16 {k : Nat} (h : k < 8) : k = 0 ∨ k = 1 ∨ k = 2 ∨ k = 3 ∨ k = 4 ∨ k = 5 ∨ k = 6 ∨ k = 7 := by omega
theorem cell_drew {w : World} {p : Addr} {v : Value} (h : w.cell? p = some v) : w.drew.cell? p = some v := h

theorem windows16_walk (n fr : Int) (a : Option Addr) (cap : Nat) (L : List Win) (g : World) (hA : SlotsAt g a L) (hm : L.length ≤ 9223372036854775807) :
    Calls Try.prog 3 #[.int .i64 n, .slice a L.length cap, .int .i64 fr] g fun e w' => e = .returned (.bool true) ∧ Below g.heap.size g w' := by
  have S0 := Sat.start g
  have hk : ∀ w' Q, Sat g w' (Q * whole g) → SlotsAt w' a L := fun w' Q h => hA.keep (Sat.ends (h.perm (star_comm _ _)))
  by_cases hn : n < 1 ∨ 256 < n
  · go_enter Try.func3, Try.ntmps3
    go_wp2_with (fail)
    refine (awake16 g _ _ S0).mono ?_
    rintro e w1 ⟨rfl, S1⟩
    go_wp2_with (fail)
    refine (table_no n a L.length cap w1 hn).mono ?_
    rintro e w' ⟨rfl, rfl⟩
    go_wp2_with (fail)
    go_ret
    exact ⟨rfl, Sat.ends (S1.emp.perm (star_comm _ _))⟩
  have h1 : 1 ≤ n := by omega
  have h2 : n ≤ 256 := by omega
  clear hn
  go_enter Try.func3, Try.ntmps3
  go_wp2_with (fail)
  refine (awake16 g _ _ S0).mono ?_
  rintro e w1 ⟨rfl, S1⟩
  go_wp2_with (fail)
  refine (s_table n a cap L g w1 _ S1 hk hm h1 h2).mono ?_
  rintro e w2 ⟨pt, rfl, S2⟩
  generalize tabF n L = M at S2
  by_cases hbig : 60 < L.length ∨ fr < 0 ∨ 6 < fr
  · have h : 60 < L.length ∨ (¬ 60 < L.length ∧ (fr < 0 ∨ (¬ fr < 0 ∧ 6 < fr))) := by omega
    rcases h with h | ⟨h3, h4 | ⟨h4, h5⟩⟩
    all_goals
      go_wp2_with (fail)
      go_ret
      exact ⟨rfl, Sat.ends (S2.perm (star_comm _ _))⟩
  have h3 : L.length ≤ 60 := by omega
  have h4 : 0 ≤ fr := by omega
  have h5 : fr ≤ 6 := by omega
  clear hbig
  obtain ⟨m, rfl⟩ := Int.eq_ofNat_of_zero_le (show 0 ≤ n by omega)
  obtain ⟨f, rfl⟩ := Int.eq_ofNat_of_zero_le h4
  obtain ⟨St, ok⟩ := S2.tabOk
  have hlen := ok.len
  have hbd : ∀ x ∈ M, 0 ≤ x.p ∧ x.p < 8 ∧ 1 ≤ x.l ∧ 0 ≤ x.f ∧ x.f + x.l ≤ (m : Int) := ok.bd
  have hap := ok.ap
  clear ok hk hm
  go_wp2_with (fail)
  refine (s_clock pt m M g _ _ S2).mono ?_
  rintro e w3 ⟨pc, rfl, S3⟩
  rw [← useK_zero M m] at S3
  go_wp2_with (fail)
  go_loopw [11] (fun i wr => ∃ q : Nat, q ≤ f ∧ i = .int .i64 q ∧ Sat g wr (ckP pc m M none ((q : Int) * m) 0 (useK M m q 0) * (tabP pt m M * whole g))) (fun i _ => f - (intOf i).toNat)
  case atStart => exact ⟨0, by omega, rfl, by simpa using S3⟩
  case round =>
    obtain ⟨q, hq, rfl, S4⟩ := hrel
    by_cases hqf : q < f
    · have hdq : decide ((q : Int) < f) = true := by simp; omega
      go_wp2_with (fail)
      obtain ⟨wo, rfl⟩ : ∃ wo : World, wo = wr := ⟨_, rfl⟩
      go_loopw [12] (fun i wr => ∃ k : Nat, k ≤ m ∧ i = .int .i64 k ∧ Sat g wr (ckP pc m M none ((q : Int) * m + k) ((k : Int) % m) (useK M m q k) * (tabP pt m M * whole g))) (fun i _ => m - (intOf i).toNat)
      case atStart => exact ⟨0, by omega, rfl, by simpa using S4⟩
      case round =>
        obtain ⟨k, hk, rfl, S5⟩ := hrel
        by_cases hkm : k < m
        · have hmod : (k : Int) % m = k := Int.emod_eq_of_lt (by omega) (by omega)
          have hmod2 : ((k : Int) + 1) % m = ((k + 1 : Nat) : Int) % m := by push_cast; rfl
          rw [hmod] at S5
          have hqm : (q : Int) * m ≤ 5 * 256 := Int.mul_le_mul (by omega) (by omega) (by omega) (by omega)
          have hqm0 : 0 ≤ (q : Int) * m := Int.mul_nonneg (by omega) (by omega)
          have hN := Lib.hid (s_next pc m M none ((q : Int) * m + k) k (useK M m q k) g wr _ S5 (by omega) (by omega) (fun i _ => useK_range M m q k i) (by omega) (by omega))
          go_wp2_with (fail)
          refine (hN.out).mono ?_
          rintro e w5 ⟨rfl, S6⟩
          simp only [turnT_none, turnS_none] at S6
          rw [useK_succ, hmod2, show (q : Int) * m + k + 1 = (q : Int) * m + ((k + 1 : Nat) : Int) by push_cast; omega] at S6
          have hfp := at_first M k (fun x hx => ⟨(hbd x hx).1, (hbd x hx).2.2.1⟩)
          have hbk := at_back M k (by omega) (fun x hx => ⟨(hbd x hx).2.2.2.1, (hbd x hx).1, by have := (hbd x hx).2.2.1; omega⟩) hap
          have hor := atW_or M k fun x hx => ⟨(hbd x hx).1, (hbd x hx).2.1⟩
          have hAt : ∀ (t : Int) w', Sat g w' (ckP pc m M none ((q : Int) * m + ((k + 1 : Nat) : Int)) (((k + 1 : Nat) : Int) % m) (useK M m q (k + 1)) * (tabP pt m M * whole g)) → Calls Try.prog 10 #[.pointer (some ⟨pt, 0, none⟩), .int .i64 t] w' fun e w'' => e = .returned (.int .i64 (atW M t)) ∧ Below w'.heap.size w' w'' := fun t w' h => s_at pt m M t g w' _ h.swap
          generalize hpart : atW M k = part at hfp hbk hor
          generalize hfirst : (M.any fun x => x.f == (k : Int)) = first at hfp hbk
          go_upto_region 15 with fail
          have S7 := S6.pt_new (.cells #[.int .i64 ((q : Int) * m + k), .int .i64 k, .int .i64 part, .bool first] 31)
          obtain ⟨w6, hw6⟩ : ∃ w6, w6 = w5.alloc (.cells #[.int .i64 ((q : Int) * m + k), .int .i64 k, .int .i64 part, .bool first] 31) := ⟨_, rfl⟩
          rw [← hw6] at S7 ⊢
          clear hw6
          obtain ⟨tb, htb⟩ : ∃ tb, tb = w5.heap.size := ⟨_, rfl⟩
          rw [← htb] at S7 ⊢
          clear htb S6 hN hAt
          have HT : ∀ w', Below w6.heap.size w6 w' → w'.cell? ⟨tb, 0, none⟩ = some (.int .i64 ((q : Int) * m + k)) ∧ w'.cell? ⟨tb, 1, none⟩ = some (.int .i64 k) ∧ w'.cell? ⟨tb, 2, none⟩ = some (.int .i64 part) ∧ w'.cell? ⟨tb, 3, none⟩ = some (.bool first) := fun w' hb => tk_cells (n := (q : Int) * m + k) (place := k) (part := part) (first := first) (S7.below hb)
          have HA : ∀ (t : Int) w', (t = k ∨ (atW M t = part ∧ t = (k : Int) - 1)) → Below w6.heap.size w6 w' → Calls Try.prog 10 #[.pointer (some ⟨pt, 0, none⟩), .int .i64 t] w' fun e w'' => e = .returned (.int .i64 part) ∧ Below w6.heap.size w6 w'' := fun t w' ht hb => (s_at pt m M t g w' _ (S7.below hb).up3).mono fun e w'' ⟨x, y⟩ => ⟨by rw [x]; rcases ht with rfl | ht; rw [hpart]; rw [ht.1], hb.trans (y.mono hb.size)⟩
          have HT := Lib.hid HT
          have HA := Lib.hid HA
          have HAP := Lib.hid hpart
          clear hpart hfirst
          have hwr1 : IntKind.i64.wrap ((q : Int) * m) = (q : Int) * m := IntWalk.i64_in _ ⟨by omega, by omega⟩
          have hwr2 : IntKind.i64.wrap ((q : Int) * m + k) = (q : Int) * m + k := IntWalk.i64_in _ ⟨by omega, by omega⟩
          have hwr3 : IntKind.i64.wrap ((k : Int) - 1) = (k : Int) - 1 := IntWalk.i64_in _ ⟨by omega, by omega⟩
          rcases hor with rfl | ⟨hp1, hp2⟩
          · obtain rfl : first = false := by
              cases first
              · rfl
              · exact absurd (hfp rfl) (by omega)
            clear hfp hbk
            have c0 := fun p : Wc (fun w' => Below w6.heap.size w6 w') => (HT.out p.w p.h).1
            have c1 := fun p : Wc (fun w' => Below w6.heap.size w6 w') => (HT.out p.w p.h).2.1
            have c2 := fun p : Wc (fun w' => Below w6.heap.size w6 w') => (HT.out p.w p.h).2.2.1
            have c3 := fun p : Wc (fun w' => Below w6.heap.size w6 w') => (HT.out p.w p.h).2.2.2
            refine region_class (fun w' => Below w6.heap.size w6 w') (by kernel_rfl) (by kernel_rfl) (by repeat (first | with_reducible exact Below.refl _ _ | with_reducible assumption | with_reducible refine below_drewN ?_ _ | with_reducible refine Below.drew ?_ | with_reducible refine Below.setCell ?_ (by first | omega | (simp <;> omega)) _ | with_reducible refine Below.alloc ?_ (by first | omega | (simp <;> omega)) _)) ?_
            intro _
            repeat (first | go_big_quiet_step (((go_at_call 10; exact class_call (HA.out _ _ (Or.inl rfl) (Wc.h _))))) | quiet_step (((go_at_call 10; exact class_call (HA.out _ _ (Or.inl rfl) (Wc.h _))))))
            refine wpQuiet_nil ?_
            intro w7 hb7
            clear c0 c1 c2 c3
            clear hwr1 hwr2 hwr3
            all_goals
              go_wp2_with (fail)
              go_roundw
              case rel => exact ⟨k + 1, by omega, by go_num, (S7.below (by repeat (first | with_reducible exact Below.refl _ _ | with_reducible assumption | with_reducible refine below_drewN ?_ _ | with_reducible refine Below.drew ?_ | with_reducible refine Below.setCell ?_ (by first | omega | (simp <;> omega)) _ | with_reducible refine Below.alloc ?_ (by first | omega | (simp <;> omega)) _))).right⟩
              case measure => simp [intOf]; omega
          · have hd1 : decide (part < 0) = false := by simp; omega
            have hd2 : decide (0 ≤ part) = true := by simp; omega
            cases first with
            | true =>
              clear hfp hbk
              have c0 := fun p : Wc (fun w' => Below w6.heap.size w6 w') => (HT.out p.w p.h).1
              have c1 := fun p : Wc (fun w' => Below w6.heap.size w6 w') => (HT.out p.w p.h).2.1
              have c2 := fun p : Wc (fun w' => Below w6.heap.size w6 w') => (HT.out p.w p.h).2.2.1
              have c3 := fun p : Wc (fun w' => Below w6.heap.size w6 w') => (HT.out p.w p.h).2.2.2
              refine region_class (fun w' => Below w6.heap.size w6 w') (by kernel_rfl) (by kernel_rfl) (by repeat (first | with_reducible exact Below.refl _ _ | with_reducible assumption | with_reducible refine below_drewN ?_ _ | with_reducible refine Below.drew ?_ | with_reducible refine Below.setCell ?_ (by first | omega | (simp <;> omega)) _ | with_reducible refine Below.alloc ?_ (by first | omega | (simp <;> omega)) _)) ?_
              intro _
              repeat (first | go_big_quiet_step (((go_at_call 10; exact class_call (HA.out _ _ (Or.inl rfl) (Wc.h _))))) | quiet_step (((go_at_call 10; exact class_call (HA.out _ _ (Or.inl rfl) (Wc.h _))))))
              refine wpQuiet_nil ?_
              intro w7 hb7
              clear c0 c1 c2 c3
              clear hwr1 hwr2 hwr3 hd1 hd2
              all_goals
                go_wp2_with (fail)
                go_roundw
                case rel => exact ⟨k + 1, by omega, by go_num, (S7.below (by repeat (first | with_reducible exact Below.refl _ _ | with_reducible assumption | with_reducible refine below_drewN ?_ _ | with_reducible refine Below.drew ?_ | with_reducible refine Below.setCell ?_ (by first | omega | (simp <;> omega)) _ | with_reducible refine Below.alloc ?_ (by first | omega | (simp <;> omega)) _))).right⟩
                case measure => simp [intOf]; omega
            | false =>
              have HX := HAP.out
              obtain ⟨hk0, hk1⟩ := hbk rfl hp1
              have HY := Lib.hid hk1
              have hk2 : ((k : Int) == 0) = false := by simp; omega
              clear hfp hbk hk1 HX
              have c0 := fun p : Wc (fun w' => Below w6.heap.size w6 w') => (HT.out p.w p.h).1
              have c1 := fun p : Wc (fun w' => Below w6.heap.size w6 w') => (HT.out p.w p.h).2.1
              have c2 := fun p : Wc (fun w' => Below w6.heap.size w6 w') => (HT.out p.w p.h).2.2.1
              have c3 := fun p : Wc (fun w' => Below w6.heap.size w6 w') => (HT.out p.w p.h).2.2.2
              refine region_class (fun w' => Below w6.heap.size w6 w') (by kernel_rfl) (by kernel_rfl) (by repeat (first | with_reducible exact Below.refl _ _ | with_reducible assumption | with_reducible refine below_drewN ?_ _ | with_reducible refine Below.drew ?_ | with_reducible refine Below.setCell ?_ (by first | omega | (simp <;> omega)) _ | with_reducible refine Below.alloc ?_ (by first | omega | (simp <;> omega)) _)) ?_
              intro _
              repeat (first | go_big_quiet_step (((go_at_call 10; exact class_call (HA.out _ _ (by first | exact Or.inl rfl | exact Or.inr ⟨HY.out, rfl⟩) (Wc.h _))))) | quiet_step (((go_at_call 10; exact class_call (HA.out _ _ (by first | exact Or.inl rfl | exact Or.inr ⟨HY.out, rfl⟩) (Wc.h _))))))
              refine wpQuiet_nil ?_
              intro w7 hb7
              clear c0 c1 c2 c3
              clear hwr1 hwr2 hwr3 hd1 hd2
              all_goals
                go_wp2_with (fail)
                go_roundw
                case rel => exact ⟨k + 1, by omega, by go_num, (S7.below (by repeat (first | with_reducible exact Below.refl _ _ | with_reducible assumption | with_reducible refine below_drewN ?_ _ | with_reducible refine Below.drew ?_ | with_reducible refine Below.setCell ?_ (by first | omega | (simp <;> omega)) _ | with_reducible refine Below.alloc ?_ (by first | omega | (simp <;> omega)) _))).right⟩
                case measure => simp [intOf]; omega
        · obtain rfl : k = m := by omega
          go_wp2_with (fail)
          go_roundw
          case rel => exact ⟨q + 1, by omega, by go_num, by rw [useK_row, Int.emod_self] at S5; rw [show ((q + 1 : Nat) : Int) * k = (q : Int) * k + k by push_cast; rw [Int.add_mul]; omega]; exact S5⟩
          case measure => simp [intOf]; omega
    · obtain rfl : q = f := by omega
      have hlens : ∀ i : Nat, i < 8 → useK M m q 0 i = (q : Int) * lens M i := fun i _ => by
        simp only [useK, seen]
        rw [seen_all M m i (by omega) (fun x hx => by have := hbd x hx; omega) hap]; omega
      have HL := Lib.hid hlens
      clear hlens
      go_wp2_with (fail)
      refine (s_slots pt m M g _ _ S4.swap).mono ?_
      rintro e w4 ⟨sv, rfl, hown, hb4⟩
      obtain ⟨sa, scap, rfl, hwin⟩ := own_wins hown rfl
      have S5 := S4.below hb4
      clear S4 hown hb4
      go_wp2_with (fail)
      obtain ⟨w5, hw5⟩ : ∃ w5, w5 = w4.alloc (.cells #[.int .i64 0, .int .i64 0, .int .i64 0, .int .i64 0, .int .i64 0, .int .i64 0, .int .i64 0, .int .i64 0] 35) := ⟨_, rfl⟩
      have hr5 : RowF w5 w4.heap.size 8 (fun i => .int .i64 (lens (M.take 0) i)) := by
        rw [hw5]
        exact (RowF.new w4 [.int .i64 0, .int .i64 0, .int .i64 0, .int .i64 0, .int .i64 0, .int .i64 0, .int .i64 0, .int .i64 0] _).congr fun j hj => by
          rcases eight16 hj with h | h | h | h | h | h | h | h <;> subst h <;> simp [lens]
      have hb5 : Below w4.heap.size w4 w5 := by rw [hw5]; repeat (first | with_reducible exact Below.refl _ _ | with_reducible assumption | with_reducible refine below_drewN ?_ _ | with_reducible refine Below.alloc ?_ (by simp <;> omega) _)
      rw [← hw5]
      clear hw5
      go_loopw [16] (fun i wr => ∃ k : Nat, k ≤ M.length ∧ i = .int .i64 k ∧ RowF wr w4.heap.size 8 (fun i => .int .i64 (lens (M.take k) i)) ∧ Below w4.heap.size w4 wr) (fun i _ => M.length - (intOf i).toNat)
      case atStart => exact ⟨0, by omega, rfl, hr5, hb5⟩
      case round =>
        obtain ⟨k, hk, rfl, hrow, hbr⟩ := hrel
        by_cases hkl : k < M.length
        · have i1 : (k : Int) < M.length := by omega
          rcases hwin.below hbr with h0 | ⟨sb, rfl, _, hc⟩
          · rw [h0] at hkl; simp at hkl
          obtain ⟨q0, -, q2⟩ := hc k hkl
          have hsn := lens_take M k hkl
          have hx := hbd _ (List.getElem_mem hkl)
          generalize M[k] = x at q0 q2 hsn hx
          obtain ⟨x1, x2, x3, x4, x5⟩ := hx
          obtain ⟨j, hj⟩ := Int.eq_ofNat_of_zero_le x1
          rw [hj] at q0
          have hj8 : j < 8 := by omega
          have hcell := hrow.cell j hj8
          have hfree := hrow.free j hj8
          have hlb := lens_bd (M.take k) j 256 (fun y hy => by have := hbd y (List.mem_of_mem_take hy); omega)
          have hlt : (M.take k).length ≤ 256 := by rw [List.length_take]; omega
          have HS := Lib.hid hsn
          have HJ := Lib.hid hj
          have HR := Lib.hid hrow
          obtain ⟨y, hy⟩ : ∃ y, y = lens (M.take k) j := ⟨_, rfl⟩
          have hyb : 0 ≤ y ∧ y ≤ 65536 := by rw [hy]; exact ⟨hlb.1, Int.le_trans hlb.2 (by omega)⟩
          obtain ⟨y1, y2⟩ := hyb
          rw [← hy] at hcell
          have HYY := Lib.hid hy
          clear hy hj hsn hlb hc hrow hwin
          have hwr : IntKind.i64.wrap (y + x.l) = y + x.l := IntWalk.i64_in _ ⟨by omega, by omega⟩
          go_wp2_with (fail)
          refine region_tail (fun w' => wr.drew = w') 19 (by kernel_rfl) (by kernel_rfl) rfl ?_
          intro _
          have c0 : ∀ p : Wc (fun w' => wr.drew = w'), p.w.cell? ⟨sb, k * 3, none⟩ = some (.int .i64 j) := fun p => by rw [← p.h]; exact q0
          have c2 : ∀ p : Wc (fun w' => wr.drew = w'), p.w.cell? ⟨sb, k * 3 + 2, none⟩ = some (.int .i64 x.l) := fun p => by rw [← p.h]; exact q2
          have c3 : ∀ p : Wc (fun w' => wr.drew = w'), p.w.cell? ⟨w4.heap.size, j, none⟩ = some (.int .i64 y) := fun p => by rw [← p.h]; exact hcell
          simp only [List.take_succ_cons, List.take_zero, List.drop_succ_cons, List.drop_zero]
          repeat (first | go_big_quiet_step ((fail)) | quiet_step ((fail)))
          refine wpQuiet_nil ?_
          rintro _ rfl
          clear c0 c2 c3
          clear hwr
          go_wp2_with (fail)
          go_roundw
          case rel =>
            refine ⟨k + 1, by omega, by go_num, ((HR.out.drew.set j hj8 (.int .i64 (y + x.l))).congr fun i hi => ?_), Below.setCell hbr.drew (Nat.le_refl _) _⟩
            rw [HS.out, HJ.out]
            by_cases e : i = j
            · rw [if_pos e, e, if_pos rfl, HYY.out]
            · rw [if_neg e, if_neg (by omega), Int.add_zero]
          case measure => simp [intOf]; omega
        · obtain rfl : k = M.length := by omega
          rw [List.take_length] at hrow
          have S6 := S5.below hbr
          go_wp2_with (fail)
          obtain ⟨wo, rfl⟩ : ∃ wo : World, wo = wr := ⟨_, rfl⟩
          go_loopw [17] (fun i wx => ∃ k : Nat, k ≤ 8 ∧ i = .int .i64 k ∧ Below wo.heap.size wo wx) (fun i _ => 8 - (intOf i).toNat)
          case atStart => exact ⟨0, by omega, rfl, Below.refl _ _⟩
          case round =>
            obtain ⟨k, hk, rfl, hbx⟩ := hrel
            by_cases hk8 : k < 8
            · have hdk : decide ((k : Int) < 8) = true := by simp; omega
              have hrx := hrow.below hbx
              have hcell := hrx.cell k hk8
              have hU : ∀ w', Below wo.heap.size wo w' → Calls Try.prog 12 #[.pointer (some ⟨pc, 0, none⟩), .int .i64 k] w' fun e w'' => e = .returned (.int .i64 ((q : Int) * lens M k)) ∧ w' = w'' := fun w' hb => by
                have := s_used' pc m M none ((q : Int) * m) 0 (useK M m q 0) k g w' _ (S6.below hb)
                rw [if_pos (by omega), Int.toNat_natCast, HL.out k hk8] at this
                exact this
              have hlb := lens_bd M k 256 (fun y hy => by have := hbd y hy; omega)
              generalize lens M k = y at hcell hU hlb
              have hy1 : 0 ≤ (q : Int) * y := Int.mul_nonneg (by omega) hlb.1
              have hy2 : (q : Int) * y ≤ 6 * 65536 := Int.mul_le_mul (by omega) (Int.le_trans hlb.2 (by omega)) hlb.1 (by omega)
              have hwr : IntKind.i64.wrap ((q : Int) * y) = (q : Int) * y := IntWalk.i64_in _ ⟨by omega, by omega⟩
              clear hlb hrx
              have HV := Lib.hid (fun w' (hw : wr.drew = w') => hU w' (by rw [← hw]; repeat (first | with_reducible exact Below.refl _ _ | with_reducible assumption | with_reducible refine below_drewN ?_ _ | with_reducible refine Below.drew ?_ | with_reducible refine Below.setCell ?_ (by first | omega | (simp <;> omega)) _ | with_reducible refine Below.alloc ?_ (by first | omega | (simp <;> omega)) _)))
              clear hU
              go_wp2_with (fail)
              refine region_class (fun w' => wr.drew = w') (by kernel_rfl) (by kernel_rfl) rfl ?_
              intro _
              have c0 : ∀ p : Wc (fun w' => wr.drew = w'), p.w.cell? ⟨w4.heap.size, k, none⟩ = some (.int .i64 y) := fun p => by rw [← p.h]; exact hcell
              repeat (first | go_big_quiet_step (((go_at_call 12; exact class_same (HV.out _ (Wc.h _))))) | quiet_step ((fail)))
              refine wpQuiet_nil ?_
              rintro _ rfl
              clear c0
              clear hwr
              all_goals
                go_wp2_with (fail)
                go_roundw
                case rel => exact ⟨k + 1, by omega, by go_num, by repeat (first | with_reducible exact Below.refl _ _ | with_reducible assumption | with_reducible refine below_drewN ?_ _ | with_reducible refine Below.drew ?_ | with_reducible refine Below.setCell ?_ (by first | omega | (simp <;> omega)) _ | with_reducible refine Below.alloc ?_ (by first | omega | (simp <;> omega)) _)⟩
                case measure => simp [intOf]; omega
            · obtain rfl : k = 8 := by omega
              go_wp2_with (fail)
              go_ret
              exact ⟨rfl, Sat.ends (((S6.below hbx).right.right).emp.perm (star_comm _ _))⟩

end Go.Proofs.Ytjacbcephokbbaa
