/- SlotsApart: always true. -/
import Derived.Test.YtjacbcephokbbaaDoorLawSlotsBack
namespace Go.Proofs.YtjacbcephokbbaaDoor
set_option linter.unusedSimpArgs false
set_option linter.unusedVariables false
set_option maxRecDepth 100000
open Go.RowKit Go.Shelf
set_option maxHeartbeats 40000000

def sumL : List Win → Int
  | [] => 0
  | x :: L => x.l + sumL L
theorem sumL_snoc (x : Win) : ∀ L, sumL (L ++ [x]) = sumL L + x.l
  | [] => by simp [sumL]
  | y :: L => by simp only [List.cons_append, sumL]; rw [sumL_snoc x L]; omega
def freeN (L : List Win) : Nat → Int
  | 0 => 0
  | k + 1 => freeN L k + if occ L k then 0 else 1
def inN (x : Win) : Nat → Int
  | 0 => 0
  | k + 1 => inN x k + if inW x k then 1 else 0
theorem inN_eq (x : Win) (h0 : 0 ≤ x.f) (h1 : 0 ≤ x.l) : ∀ k : Nat, inN x k = if (k : Int) ≤ x.f then 0 else if (k : Int) ≤ x.f + x.l then (k : Int) - x.f else x.l
  | 0 => by rw [if_pos (by omega)]; rfl
  | k + 1 => by
    unfold inN
    rw [inN_eq x h0 h1 k]
    by_cases c1 : x.f ≤ (k : Int) ∧ (k : Int) < x.f + x.l
    · have hw : (if inW x k = true then (1 : Int) else 0) = 1 := if_pos (by unfold inW; rw [decide_eq_true c1.1, decide_eq_true c1.2]; rfl)
      rw [hw]
      (repeat' split) <;> omega
    · have hw : (if inW x k = true then (1 : Int) else 0) = 0 := if_neg (fun h => c1 (by unfold inW at h; simpa using h))
      rw [hw]
      (repeat' split) <;> omega
theorem free_cons (x : Win) (L : List Win) (h : ∀ j : Nat, inW x j = true → occ L j = false) : ∀ k : Nat, freeN L k = freeN (x :: L) k + inN x k
  | 0 => rfl
  | k + 1 => by
    unfold freeN inN
    rw [free_cons x L h k]
    have ho : occ (x :: L) k = (inW x k || occ L k) := by simp [occ]
    rw [ho]
    cases hx : inW x k with
    | true => rw [h k hx]; simp; omega
    | false => simp; omega
theorem free_nil : ∀ k : Nat, freeN [] k = k
  | 0 => rfl
  | k + 1 => by unfold freeN; rw [free_nil k]; simp [occ]
theorem sum_free : ∀ (L : List Win) (N : Nat), (∀ x ∈ L, 1 ≤ x.l ∧ 0 ≤ x.f ∧ x.f + x.l ≤ N) → (L.Pairwise fun a b => a.f + a.l ≤ b.f) → sumL L + freeN L N = N
  | [], N, _, _ => by rw [free_nil]; simp [sumL]
  | x :: L, N, hb, hp => by
    obtain ⟨hz, hL⟩ := List.pairwise_cons.1 hp
    have ih := sum_free L N (fun y hy => hb y (List.mem_cons_of_mem _ hy)) hL
    have hx := hb x List.mem_cons_self
    have hf := free_cons x L (fun j hj => by
      cases ho : occ L j with
      | false => rfl
      | true =>
        exfalso
        obtain ⟨y, hy, h1⟩ := List.any_eq_true.1 ho
        simp only [inW, Bool.and_eq_true, decide_eq_true_eq] at h1 hj
        have := hz y hy
        omega) N
    have hi := inN_eq x hx.2.1 (by omega) N
    rw [if_neg (by omega)] at hi
    have hi2 : inN x N = x.l := by
      rw [hi]
      split <;> omega
    unfold sumL
    omega
theorem sum_bd : ∀ (L : List Win) (N : Nat), (∀ x ∈ L, 1 ≤ x.l ∧ 0 ≤ x.f ∧ x.f + x.l ≤ N) → (L.Pairwise fun a b => a.f + a.l ≤ b.f) → 0 ≤ sumL L ∧ sumL L ≤ N := fun L N hb hp => by
  have h1 := sum_free L N hb hp
  have h2 : ∀ k, 0 ≤ freeN L k := fun k => by
    induction k with
    | zero => exact Int.le_refl _
    | succ k ih => unfold freeN; split <;> omega
  have h3 : ∀ L : List Win, (∀ x ∈ L, 1 ≤ x.l ∧ 0 ≤ x.f ∧ x.f + x.l ≤ N) → 0 ≤ sumL L := fun L => by
    induction L with
    | nil => intro _; exact Int.le_refl _
    | cons x L ih => intro hb; unfold sumL; have := ih (fun y hy => hb y (List.mem_cons_of_mem _ hy)); have := hb x List.mem_cons_self; omega
  exact ⟨h3 L hb, by have := h2 N; omega⟩
theorem free_bd (L : List Win) : ∀ k : Nat, 0 ≤ freeN L k ∧ freeN L k ≤ k
  | 0 => ⟨Int.le_refl _, Int.le_refl _⟩
  | k + 1 => by have := free_bd L k; unfold freeN; split <;> omega

theorem apart15 (ticks : Int) (a : Option Addr) (len cap : Nat) (L : Nat → Op4) (w : World) (hA : Ops4 w a len L) (hT : TabAt 0 Lib.deBruijn64tab w) (hm : len ≤ 9223372036854775807) (hL : ∀ i, i < len → I64 (L i).d ∧ I64 (L i).p ∧ I64 (L i).f ∧ I64 (L i).m) :
    Calls Tryd.prog 4 #[.int .i64 ticks, .slice a len cap] w fun e w' => e = .returned (.bool true) ∧ Below w.heap.size w w' := by
  have HK := Lib.hid hA.kept
  have hTd := tabd_start hT
  have HA := Lib.hid (awake15 w w _ hTd (Sat.start w))
  have HT := Lib.hid hTd
  have HL := Lib.hid hL
  clear hA hT hTd hL
  go_enter Tryd.func4, Tryd.ntmps4
  go_wp2_with (fail)
  refine HA.out.mono ?_
  rintro e w1 ⟨rfl, S0⟩
  by_cases ht : ¬ (1 ≤ ticks ∧ ticks ≤ 256)
  · have HN := Lib.hid (slots_new_no ticks w1 ht)
    clear ht
    go_wp2_with (fail)
    refine HN.out.mono ?_
    rintro e w2 ⟨rfl, rfl⟩
    go_wp2_with (fail)
    go_ret
    exact ⟨rfl, Sat.ends (S0.emp.perm (star_comm _ _))⟩
  obtain ⟨n, rfl⟩ := Int.eq_ofNat_of_zero_le (show 0 ≤ ticks by omega)
  have hn1 : (1 : Int) ≤ n := by omega
  have hn2 : (n : Int) ≤ 256 := by omega
  clear ht
  go_wp2_with (fail)
  refine (s_slotsnew n w w1 _ S0 hn1 hn2).mono ?_
  rintro e w2 ⟨pt, rfl, S1⟩
  by_cases hlen : 60 < len
  · go_wp2_with (fail)
    go_ret
    exact ⟨rfl, Sat.ends (S1.right.emp.perm (star_comm _ _))⟩
  go_wp2_with (fail)
  go_loopw [8] (fun i wr => ∃ k : Nat, k ≤ len ∧ i = .int .i64 k ∧ ∃ M, Sat w wr (tabP pt n M * whole w)) (fun i _ => len - (intOf i).toNat)
  case atStart => exact ⟨0, by omega, rfl, [], S1⟩
  case round =>
    obtain ⟨k, hk, rfl, M, S2⟩ := hrel
    clear S1 S0
    by_cases hkl : k < len
    · have i1 : (k : Int) < len := by omega
      obtain ⟨ob, off, rfl, hop⟩ := HK.out k hkl
      have q := hop wr _ S2
      have hb := HL.out k hkl
      generalize L k = x at q hb
      obtain ⟨q0, q1, q2, q3⟩ := q
      have hmx := hb.2.2.2.2
      have S3 := S2.drew
      have m1 : ∀ z : Wc (fun w' => wr.drew = w'), z.w.cell? ⟨ob, off + k * 4 + 1, none⟩ = some (.int .i64 x.p) := fun z => by rw [← z.h]; exact q1
      have m2 : ∀ z : Wc (fun w' => wr.drew = w'), z.w.cell? ⟨ob, off + k * 4 + 2, none⟩ = some (.int .i64 x.f) := fun z => by rw [← z.h]; exact q2
      have m3 : ∀ z : Wc (fun w' => wr.drew = w'), z.w.cell? ⟨ob, off + k * 4 + 3, none⟩ = some (.int .i64 x.m) := fun z => by rw [← z.h]; exact q3
      clear hop hb
      by_cases h4 : x.d = 4
      · have g4 : (x.d == 4) = true := by simp [h4]
        clear h4
        go_wp2_with (fail)
        (refine region_tail (fun w' => wr.drew = w') 16 (by kernel_rfl) (by kernel_rfl) (rfl) ?_; intro _; simp only [List.take_succ_cons, List.take_zero, List.drop_succ_cons, List.drop_zero]; (repeat (first | go_big_quiet_step ((fail)) | quiet_step ((fail)))); refine wpQuiet_nil ?_; intro wz hz)
        subst hz
        clear m1 m2 m3 q0 q1 q2 q3
        go_wp2_with (fail)
        refine (s_move pt n M x.p x.f x.m w _ _ S3).mono ?_
        rintro e w4 ⟨kk, L', _, rfl, S4⟩
        go_wp2_with (fail)
        go_roundw
        case rel => exact ⟨k + 1, by omega, by go_num, _, S4⟩
        case measure => simp [intOf]; omega
      · have g4 : (x.d == 4) = false := by rw [beq_eq_false_iff_ne]; exact h4
        clear h4
        by_cases h2 : x.d = 2
        · have g2 : (x.d == 2) = true := by simp [h2]
          clear h2
          go_wp2_with (fail)
          (refine region_tail (fun w' => wr.drew = w') 16 (by kernel_rfl) (by kernel_rfl) (rfl) ?_; intro _; simp only [List.take_succ_cons, List.take_zero, List.drop_succ_cons, List.drop_zero]; (repeat (first | go_big_quiet_step ((fail)) | quiet_step ((fail)))); refine wpQuiet_nil ?_; intro wz hz)
          subst hz
          clear m1 m2 m3 q0 q1 q2 q3
          go_wp2_with (fail)
          refine (s_place pt n M x.p x.f x.m w _ _ S3).mono ?_
          rintro e w4 ⟨rfl, S4⟩
          go_wp2_with (fail)
          go_roundw
          case rel => exact ⟨k + 1, by omega, by go_num, _, S4⟩
          case measure => simp [intOf]; omega
        · have g2 : (x.d == 2) = false := by rw [beq_eq_false_iff_ne]; exact h2
          clear h2
          go_wp2_with (fail)
          (refine region_tail (fun w' => wr.drew = w') 11 (by kernel_rfl) (by kernel_rfl) (rfl) ?_; intro _; simp only [List.take_succ_cons, List.take_zero, List.drop_succ_cons, List.drop_zero]; (repeat (first | go_big_quiet_step ((fail)) | quiet_step ((fail)))); refine wpQuiet_nil ?_; intro wz hz)
          subst hz
          clear m1 m2 m3 q0 q1 q2 q3
          go_wp2_with (fail)
          refine (s_ins pt n M x.p x.m w _ _ HT.out S3 hmx).mono ?_
          rintro e w4 ⟨f, kk, L', _, rfl, S4⟩
          go_wp2_with (fail)
          go_roundw
          case rel => exact ⟨k + 1, by omega, by go_num, _, S4⟩
          case measure => simp [intOf]; omega
    · obtain rfl : len = k := by omega
      obtain ⟨S, hok⟩ := S2.tabOk
      have HOK := Lib.hid hok
      have hlM := hok.len
      have hbdM : ∀ x ∈ M, 1 ≤ x.l ∧ 0 ≤ x.f ∧ x.f + x.l ≤ (n : Int) := fun x hx => (hok.bd x hx).2.2
      have hsub : ∀ j, 0 ≤ sumL (M.take j) ∧ sumL (M.take j) ≤ (n : Int) := fun j => sum_bd (M.take j) n (fun x hx => hbdM x (List.mem_of_mem_take hx)) (hok.ap.sublist (List.take_sublist _ _))
      have HSUB := Lib.hid hsub
      have HTOT := Lib.hid (sum_free M n hbdM hok.ap)
      clear hok hbdM hsub
      obtain ⟨wo, rfl⟩ : ∃ wo : World, wo = wr := ⟨_, rfl⟩
      go_wp2_with (fail)
      refine (s_slots pt n M w _ _ S2).mono ?_
      rintro e w3 ⟨va, rfl, hown, hb3⟩
      obtain ⟨QA, aa, capa, rfl, S3, hqa⟩ := wins_part S2 hb3 hown
      have HQA := Lib.hid hqa
      clear hqa hown hb3 S2
      go_wp2_with (fail)
      go_loopw [11, 10] (fun i s wr => ∃ k : Nat, k ≤ M.length ∧ i = .int .i64 k ∧ (∃ al : Int, s = .int .i64 al ∧ Hid (al = sumL (M.take k))) ∧ Sat w wr (QA * (tabP pt n M * whole w))) (fun i _ _ => M.length - (intOf i).toNat)
      case atStart => exact ⟨0, by omega, rfl, ⟨0, rfl, Lib.hid rfl⟩, S3⟩
      case round =>
        obtain ⟨k, hk, rfl, ⟨al, rfl, HAL⟩, S4⟩ := hrel
        clear S3
        have hal : 0 ≤ al ∧ al ≤ n := by rw [HAL.out]; exact HSUB.out k
        obtain ⟨al0, al1⟩ := hal
        by_cases hkl : k < M.length
        · have i1 : (k : Int) < M.length := by omega
          obtain ⟨gb, rfl, q0, q1, q2⟩ := (HQA.out wr _ S4).cells hkl
          have hcell : ∀ w', Sat w w' (QA * (tabP pt n M * whole w)) → w'.cell? ⟨gb, k * 3, none⟩ = some (.int .i64 M[k].p) ∧ w'.cell? ⟨gb, k * 3 + 1, none⟩ = some (.int .i64 M[k].f) ∧ w'.cell? ⟨gb, k * 3 + 2, none⟩ = some (.int .i64 M[k].l) := fun w' h' => by
            obtain ⟨gb', e, c1, c2, c3⟩ := (HQA.out w' _ h').cells hkl
            simp only [Option.some.injEq, Addr.mk.injEq] at e
            obtain ⟨rfl, -, -⟩ := e
            exact ⟨c1, c2, c3⟩
          have hprev : 0 < k → ∀ w', Sat w w' (QA * (tabP pt n M * whole w)) → w'.cell? ⟨gb, (k - 1) * 3 + 1, none⟩ = some (.int .i64 (M[k - 1]'(by omega)).f) ∧ w'.cell? ⟨gb, (k - 1) * 3 + 2, none⟩ = some (.int .i64 (M[k - 1]'(by omega)).l) := fun h0 w' h' => by
            obtain ⟨gb', e, c1, c2, c3⟩ := (HQA.out w' _ h').cells (show k - 1 < M.length by omega)
            simp only [Option.some.injEq, Addr.mk.injEq] at e
            obtain ⟨rfl, -, -⟩ := e
            exact ⟨c2, c3⟩
          have hpb : ∀ h0 : 0 < k, (M[k - 1]'(by omega)).f + (M[k - 1]'(by omega)).l ≤ M[k].f ∧ 0 ≤ (M[k - 1]'(by omega)).f ∧ 1 ≤ (M[k - 1]'(by omega)).l := fun h0 => by
            have hx := HOK.out.bd (M[k - 1]'(by omega)) (List.getElem_mem _)
            exact ⟨List.pairwise_iff_getElem.1 HOK.out.ap (k - 1) k (by omega) hkl (by omega), hx.2.2.2.1, hx.2.2.1⟩
          have hxb := HOK.out.bd M[k] (List.getElem_mem hkl)
          have hat : ∀ t, inW M[k] t = true → atW M t = M[k].p := fun t h => at_in HOK.out.ap (List.getElem_mem hkl) h
          have hsn : sumL (M.take (k + 1)) = sumL (M.take k) + M[k].l := by rw [List.take_succ_eq_append_getElem hkl, sumL_snoc]
          obtain ⟨x, hxx⟩ : ∃ x, M[k] = x := ⟨_, rfl⟩
          rw [hxx] at q0 q1 q2 hcell hpb hxb hat hsn
          have HCELL := Lib.hid hcell
          have HAT : Hid (∀ t, x.f ≤ t → t < x.f + x.l → ∀ w', Sat w w' (QA * (tabP pt n M * whole w)) → Calls Tryd.prog 11 #[.pointer (some ⟨pt, 0, none⟩), .int .i64 t] w' fun e w'' => e = .returned (.int .i64 x.p) ∧ Sat w w'' (QA * (tabP pt n M * whole w))) := Lib.hid fun t h1 h2 w' h' => by
            have := s_at pt n M t w w' _ h'.swap
            rw [hat t (by simp [inW, h1, h2])] at this
            exact this.mono fun e w'' ⟨he, hb⟩ => ⟨he, h'.below hb⟩
          have HSN := Lib.hid hsn
          obtain ⟨_, _, x1, x2, x3⟩ := hxb
          have hw1 : IntKind.i64.wrap (x.f + x.l) = x.f + x.l := IntWalk.i64_in _ ⟨by omega, by omega⟩
          have d1 : decide (x.l < 1) = false := decide_eq_false (by omega)
          have d2 : decide (x.f < 0) = false := decide_eq_false (by omega)
          have d3 : decide ((n : Int) < x.f + x.l) = false := decide_eq_false (by omega)
          have m1 : ∀ z : Wc (fun w' => wr.drew = w'), z.w.cell? ⟨gb, k * 3 + 1, none⟩ = some (.int .i64 x.f) := fun z => by rw [← z.h]; exact q1
          have m2 : ∀ z : Wc (fun w' => wr.drew = w'), z.w.cell? ⟨gb, k * 3 + 2, none⟩ = some (.int .i64 x.l) := fun z => by rw [← z.h]; exact q2
          have S5 := S4.drew
          clear hcell hat hsn q0 hxx
          go_upto_region 18 with (fail)
          go_cut [160] (fun s wx => s = .bool false ∧ wx = wr.drew)
          case first =>
            by_cases hk0 : 0 < k
            · obtain ⟨c1, c2⟩ := hprev hk0 wr S4
              obtain ⟨p1, p2, p3⟩ := hpb hk0
              obtain ⟨j, rfl⟩ : ∃ j, k = j + 1 := ⟨k - 1, by omega⟩
              simp only [Nat.add_sub_cancel] at c1 c2 p1 p2 p3
              generalize M[j]'(by omega) = y at c1 c2 p1 p2 p3
              have hil : j ≤ 5000 := by omega
              have hw2 : IntKind.i64.wrap ((j : Int) + 1 - 1) = (j : Int) := by rw [IntWalk.i64_in _ ⟨by omega, by omega⟩]; omega
              have hw3 : IntKind.i64.wrap (y.f + y.l) = y.f + y.l := IntWalk.i64_in _ ⟨by omega, by omega⟩
              have e2 : decide ((0 : Int) < ((j + 1 : Nat) : Int)) = true := decide_eq_true (by omega)
              have e2' : decide ((0 : Int) < (j : Int) + 1) = true := decide_eq_true (by omega)
              have e3 : decide (x.f < y.f + y.l) = false := decide_eq_false (by omega)
              have m3 : ∀ z : Wc (fun w' => wr.drew = w'), z.w.cell? ⟨gb, j * 3 + 1, none⟩ = some (.int .i64 y.f) := fun z => by rw [← z.h]; exact c1
              have m4 : ∀ z : Wc (fun w' => wr.drew = w'), z.w.cell? ⟨gb, j * 3 + 2, none⟩ = some (.int .i64 y.l) := fun z => by rw [← z.h]; exact c2
              clear hpb hprev c1 c2 q1 q2
              (refine region_class (fun w' => wr.drew = w') (by kernel_rfl) (by kernel_rfl) (rfl) ?_; intro _; (repeat (first | go_big_quiet_step ((fail)) | quiet_step ((fail)))); refine wpQuiet_nil ?_; intro wz hz)
              subst hz
              clear m1 m2 m3 m4 hw1 hw2 hw3
              go_wp2_with (fail)
              go_meet
              exact ⟨rfl, rfl⟩
            · obtain rfl : k = 0 := by omega
              clear hpb hprev q1 q2
              (refine region_class (fun w' => wr.drew = w') (by kernel_rfl) (by kernel_rfl) (rfl) ?_; intro _; (repeat (first | go_big_quiet_step ((fail)) | quiet_step ((fail)))); refine wpQuiet_nil ?_; intro wz hz)
              subst hz
              clear m1 m2 hw1
              go_wp2_with (fail)
              go_meet
              exact ⟨rfl, rfl⟩
          case rest =>
            obtain ⟨rfl, rfl⟩ := hcut
            clear m1 m2 hw1 d1 d2 d3 hpb hprev S4 q1 q2
            obtain ⟨wi, hwi⟩ : ∃ wi, wi = wr.drew := ⟨_, rfl⟩
            rw [← hwi] at S5 ⊢
            clear hwi
            obtain ⟨_, q1, _⟩ := HCELL.out wi S5
            go_wp2_with (fail)
            go_loopw [12, 10] (fun s12 s10 wr => ∃ d : Nat, (d : Int) ≤ x.l ∧ s12 = .int .i64 (x.f + d) ∧ s10 = .int .i64 (al + d) ∧ Sat w wr (QA * (tabP pt n M * whole w))) (fun s12 _ _ => (x.f + x.l - intOf s12).toNat)
            case atStart => exact ⟨0, by omega, by simp, by simp, S5⟩
            case round =>
              obtain ⟨d, hd, rfl, rfl, S6⟩ := hrel
              clear S5 q1
              obtain ⟨q0, q1, q2⟩ := HCELL.out wr S6
              have S7 := S6.drew
              have S8 := S7.drew
              have hw1 : IntKind.i64.wrap (x.f + x.l) = x.f + x.l := IntWalk.i64_in _ ⟨by omega, by omega⟩
              have m1 : ∀ z : Wc (fun w' => wr.drew = w'), z.w.cell? ⟨gb, k * 3 + 1, none⟩ = some (.int .i64 x.f) := fun z => by rw [← z.h]; exact q1
              have m2 : ∀ z : Wc (fun w' => wr.drew = w'), z.w.cell? ⟨gb, k * 3 + 2, none⟩ = some (.int .i64 x.l) := fun z => by rw [← z.h]; exact q2
              have hd2 : (d : Int) ≤ 256 := by omega
              by_cases hdl : (d : Int) < x.l
              · have e1 : decide (x.f + (d : Int) < x.f + x.l) = true := decide_eq_true (by omega)
                have hat := HAT.out (x.f + d) (by omega) (by omega)
                have hadz : ∀ z : Wc (fun w' => Sat w w' (QA * (tabP pt n M * whole w))), Calls Tryd.prog 11 #[.pointer (some ⟨pt, 0, none⟩), .int .i64 (x.f + (d : Int))] z.w fun e w'' => e = .returned (.int .i64 x.p) ∧ (fun w' => Sat w w' (QA * (tabP pt n M * whole w))) w'' := fun z => hat z.w z.h
                have HAD := Lib.hid hadz
                clear hadz
                have m5 : ∀ z : Wc (fun w' => Sat w w' (QA * (tabP pt n M * whole w))), z.w.cell? ⟨gb, k * 3, none⟩ = some (.int .i64 x.p) := fun z => (HCELL.out _ z.h).1
                clear hat q0 q1 q2
                go_wp2_with (fail)
                (refine region_class (fun w' => wr.drew = w') (by kernel_rfl) (by kernel_rfl) (rfl) ?_; intro _; (repeat (first | go_big_quiet_step ((fail)) | quiet_step ((fail)))); refine wpQuiet_nil ?_; intro wz hz)
                subst hz
                clear m1 m2 hw1
                go_wp2_with (fail)
                (refine region_class (fun w' => Sat w w' (QA * (tabP pt n M * whole w))) (by kernel_rfl) (by kernel_rfl) (S8) ?_; intro _; (repeat (first | go_big_quiet_step (((go_at_call 11; exact class_call (HAD.out _)))) | quiet_step (((go_at_call 11; exact class_call (HAD.out _)))))); refine wpQuiet_nil ?_; intro wz S9)
                clear m5 S7 S8 S6
                go_wp2_with (fail)
                go_roundw
                case rel => exact ⟨d + 1, by omega, by go_num, by go_num, S9⟩
                case measure => simp [intOf]; omega
              · have e1 : decide (x.f + (d : Int) < x.f + x.l) = false := decide_eq_false (by omega)
                have hsum : al + (d : Int) = sumL (M.take (k + 1)) := by rw [HSN.out, ← HAL.out]; omega
                have HSM := Lib.hid hsum
                clear hsum q0 q1 q2
                go_wp2_with (fail)
                (refine region_class (fun w' => wr.drew = w') (by kernel_rfl) (by kernel_rfl) (rfl) ?_; intro _; (repeat (first | go_big_quiet_step ((fail)) | quiet_step ((fail)))); refine wpQuiet_nil ?_; intro wz hz)
                subst hz
                clear m1 m2 hw1
                go_wp2_with (fail)
                go_roundw
                case rel => exact ⟨k + 1, by omega, by go_num, ⟨_, rfl, HSM⟩, S7⟩
                case measure => simp [intOf]; omega
        · obtain rfl : k = M.length := by omega
          have hal : al = sumL M := by rw [HAL.out, List.take_length]
          have htot : al + freeN M n = n := by rw [hal]; exact HTOT.out
          have HTT := Lib.hid htot
          clear hal htot HAL
          obtain ⟨wi, rfl⟩ : ∃ wi : World, wi = wr := ⟨_, rfl⟩
          go_wp2_with (fail)
          go_loopw [13, 10] (fun s13 s10 wr => ∃ k : Nat, k ≤ n ∧ s13 = .int .i64 k ∧ (∃ fr : Int, s10 = .int .i64 (al + fr) ∧ Hid (fr = freeN M k)) ∧ Sat w wr (QA * (tabP pt n M * whole w))) (fun s13 _ _ => n - (intOf s13).toNat)
          case atStart => exact ⟨0, by omega, rfl, ⟨0, by simp, Lib.hid rfl⟩, S4⟩
          case round =>
            obtain ⟨j, hj, rfl, ⟨fr, rfl, HFR⟩, S5⟩ := hrel
            clear S4
            have hfb : 0 ≤ fr ∧ fr ≤ 256 := by rw [HFR.out]; have := free_bd M j; omega
            obtain ⟨fr0, fr1⟩ := hfb
            by_cases hjn : j < n
            · have i1 : (j : Int) < n := by omega
              have hat := s_at pt n M j w wr _ S5.swap
              have hfs : freeN M (j + 1) = freeN M j + if occ M j then 0 else 1 := rfl
              cases ho : occ M j with
              | true =>
                obtain ⟨x, hx, _, hxp⟩ := at_yes ho
                have h0 := (HOK.out.bd x hx).1
                rw [hxp] at hat
                rw [ho, if_pos rfl, Int.add_zero, ← HFR.out] at hfs
                have HFS := Lib.hid hfs
                have HAD := Lib.hid hat
                generalize x.p = xp at HAD h0
                have g1 : decide (xp < 0) = false := decide_eq_false (by omega)
                clear hat hfs hx hxp ho HFR
                go_wp2_with (fail)
                refine HAD.out.mono ?_
                rintro e w6 ⟨rfl, hb6⟩
                have S6 := S5.below hb6
                clear hb6 S5
                go_wp2_with (fail)
                go_roundw
                case rel => exact ⟨j + 1, by omega, by go_num, ⟨fr, rfl, Lib.hid HFS.out.symm⟩, S6⟩
                case measure => simp [intOf]; omega
              | false =>
                rw [at_no ho] at hat
                rw [ho, if_neg (by decide), ← HFR.out] at hfs
                have HFS := Lib.hid hfs
                have HAD := Lib.hid hat
                clear hat hfs ho HFR
                go_wp2_with (fail)
                refine HAD.out.mono ?_
                rintro e w6 ⟨rfl, hb6⟩
                have S6 := S5.below hb6
                clear hb6 S5
                go_wp2_with (fail)
                go_roundw
                case rel => exact ⟨j + 1, by omega, by go_num, ⟨fr + 1, by go_num, Lib.hid HFS.out.symm⟩, S6⟩
                case measure => simp [intOf]; omega
            · obtain rfl : j = n := by omega
              have hout : ∀ t : Int, (t < 0 ∨ (j : Int) ≤ t) → occ M t = false := fun t ht => by
                cases ho : occ M t with
                | false => rfl
                | true =>
                  exfalso
                  obtain ⟨y, hy, h1⟩ := List.any_eq_true.1 ho
                  simp only [inW, Bool.and_eq_true, decide_eq_true_eq] at h1
                  have := HOK.out.bd y hy
                  omega
              have hat1 := s_at pt j M j w wr _ S5.swap
              rw [at_no (hout j (by omega))] at hat1
              have hat2 : ∀ w', Sat w w' (QA * (tabP pt j M * whole w)) → Calls Tryd.prog 11 #[.pointer (some ⟨pt, 0, none⟩), .int .i64 (-1)] w' fun e w'' => e = .returned (.int .i64 (-1)) ∧ Below w'.heap.size w' w'' := fun w' h' => by
                have := s_at pt j M (-1) w w' _ h'.swap
                rw [at_no (hout (-1) (by omega))] at this
                exact this
              have g1 : (al + fr == (j : Int)) = true := by
                have h1 := HTT.out
                rw [← HFR.out] at h1
                simp [h1]
              have HA1 := Lib.hid hat1
              have HA2 := Lib.hid hat2
              clear hat1 hat2 hout HFR HTT
              go_wp2_with (fail)
              refine HA1.out.mono ?_
              rintro e w6 ⟨rfl, hb6⟩
              have S6 := S5.below hb6
              clear hb6 S5
              go_wp2_with (fail)
              refine (HA2.out w6 S6).mono ?_
              rintro e w7 ⟨rfl, hb7⟩
              have S7 := S6.below hb7
              clear hb7 S6
              go_wp2_with (fail)
              go_ret
              exact ⟨rfl, Sat.ends (S7.right.right.emp.perm (star_comm _ _))⟩

end Go.Proofs.YtjacbcephokbbaaDoor
