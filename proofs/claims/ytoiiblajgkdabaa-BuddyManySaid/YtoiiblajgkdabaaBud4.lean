/- What New of package buddy returns and makes. -/
import Derived.Test.YtoiiblajgkdabaaBud3
import Derived.Test.YtoiiblajgkdabaaBudNew
import Derived.Test.YtoiiblajgkdabaaMemP
import Derived.Carry
namespace Go.Proofs.Ytoiiblajgkdabaa
set_option linter.unusedSimpArgs false
set_option linter.unusedVariables false
set_option maxRecDepth 100000
open Go.RowKit
set_option maxHeartbeats 4000000

theorem s_frames (pm n : Nat) (W : Nat → Int) (g w : World) (R : HP) (h : Sat g w (memP pm n W * R)) :
    Calls Try.prog 15 #[.pointer (some ⟨pm, 0, none⟩)] w fun e w' => e = .returned (.int .i64 n) ∧ w = w' := by
  obtain ⟨bk, hm, _⟩ := h.mem
  exact frames_any pm bk n W w hm
theorem Sat.mem_n {g w : World} {pm n : Nat} {W : Nat → Int} {R : HP} (h : Sat g w (memP pm n W * R)) : 1 ≤ n ∧ n ≤ 256 := by
  obtain ⟨bk, hm, _⟩ := h.mem
  exact ⟨hm.n1, hm.n2⟩
theorem bud_new_nil (r : Int) (w : World) : Calls Try.prog 25 #[.pointer none, .int .i64 r] w fun e w' => e = .returned (.tuple #[.pointer none, .int .i64 1]) ∧ w = w' := by
  go_enter Try.func25, Try.ntmps25
  go_wp2_with (fail)
  go_ret2
  exact ⟨rfl, rfl⟩
theorem bud_new_no (pm n : Nat) (W : Nat → Int) (r : Int) (g w : World) (R : HP) (h : Sat g w (memP pm n W * R)) (hr : r < 0 ∨ n < r) : Calls Try.prog 25 #[.pointer (some ⟨pm, 0, none⟩), .int .i64 r] w fun e w' => e = .returned (.tuple #[.pointer none, .int .i64 1]) ∧ w = w' := by
  have HF := Lib.hid (s_frames pm n W g w R h)
  have hh : r < 0 ∨ (¬ r < 0 ∧ (n : Int) < r) := by omega
  clear hr
  rcases hh with h1 | ⟨h1, h2⟩
  · go_enter Try.func25, Try.ntmps25
    go_wp2_with (fail)
    go_ret2
    exact ⟨rfl, rfl⟩
  · go_enter Try.func25, Try.ntmps25
    go_wp2_with (fail)
    refine HF.out.mono ?_
    rintro e w' ⟨rfl, rfl⟩
    go_wp2_with (fail)
    go_ret2
    exact ⟨rfl, rfl⟩
theorem bud_nine {k : Nat} (h : k < 9) : k = 0 ∨ k = 1 ∨ k = 2 ∨ k = 3 ∨ k = 4 ∨ k = 5 ∨ k = 6 ∨ k = 7 ∨ k = 8 := by omega
theorem bud_zero (w : World) (pm : Nat) (t : TypeId) : BudIn ((w.alloc (.map #[] 0)).alloc (.cells #[.pointer (some ⟨pm, 0, none⟩), .slice none 0 0, .slice none 0 0, .slice none 0 0, .slice none 0 0, .slice none 0 0, .slice none 0 0, .slice none 0 0, .slice none 0 0, .slice none 0 0, .map (some w.heap.size)] t)) (w.heap.size + 1) pm w.heap.size (fun _ => .slice none 0 0) (fun _ => []) [] := by
  have hsz : (w.alloc (.map #[] 0)).heap.size = w.heap.size + 1 := by simp
  refine ⟨by simp [go_sem], fun i hi => ?_, by simp [go_sem], fun j hj => by simp [go_sem], fun i _ => RowI.nil _ _, fun i j k _ _ h1 _ => by simp [Value.ownBlock] at h1, fun i _ h => by simp [Value.ownBlock] at h, fun i _ h => by simp [Value.ownBlock] at h, by omega, ⟨⟨#[], 0, ?_, rfl, by simp, by simp, by simp⟩, List.nodup_nil⟩, by simp⟩
  · rcases bud_nine hi with h | h | h | h | h | h | h | h | h <;> subst h <;> simp [go_sem]
  · rw [Below.heap_alloc _ _ _ (by simp)]
    exact heap_alloc_new w _
theorem can_empty : CanF (fun _ => False) (fun _ => []) := fun o _ => ⟨List.Pairwise.nil, fun f => by
  simp
  intro a _ h
  exact h.1 _ (in_block a o)⟩
theorem Sat.mid_new {g w w' : World} {pb pm hb : Nat} {V : Nat → Value} {F : Nat → List Int} {T : Nat → Prop} {H : List Blk} {R : HP} (h : Sat g w R) (t : Below w.heap.size w w') (i : BudIn w' pb pm hb V F H) (hc : CanF T F) (hs : Small T) (hk : ∀ k, budS pb hb V k → w.heap.size ≤ k) : Sat g w' (midP pb pm T H * R) :=
  Sat.ex' (hb, V, F) (h.new t ⟨i, hc, hs⟩ (loc_mid _ _ _ _ _ _ _) hk i.slt)
def BudNew (g : World) (pm r n : Nat) (R : HP) (e : Ending) (w' : World) : Prop := ∃ pb, e = .returned (.tuple #[.pointer (some ⟨pb, 0, none⟩), .int .i64 0]) ∧ Sat g w' (midP pb pm (rangeT r n) [] * R)

theorem s_budnew (pm n r : Nat) (W : Nat → Int) (g w : World) (R : HP) (h : Sat g w (memP pm n W * R)) (hr : r ≤ n) :
    Calls Try.prog 25 #[.pointer (some ⟨pm, 0, none⟩), .int .i64 r] w (BudNew g pm r n (memP pm n W * R)) := by
  have HF := Lib.hid (fun (w' : World) (pb : Nat) (T : Nat → Prop) (h' : Sat g w' (midP pb pm T [] * (memP pm n W * R))) => s_frames pm n W g w' _ h'.swap)
  have HF0 := Lib.hid (s_frames pm n W g w R h)
  obtain ⟨n1, n2⟩ := h.mem_n
  have h0 : Sat g ((w.alloc (.map #[] 0)).alloc (.cells #[.pointer (some ⟨pm, 0, none⟩), .slice none 0 0, .slice none 0 0, .slice none 0 0, .slice none 0 0, .slice none 0 0, .slice none 0 0, .slice none 0 0, .slice none 0 0, .slice none 0 0, .map (some w.heap.size)] 92)) (midP (w.heap.size + 1) pm (rangeT r r) [] * (memP pm n W * R)) := by
    have he : rangeT r r = fun _ => False := by funext x; unfold rangeT; exact propext ⟨fun h => by omega, fun h => h.elim⟩
    rw [he]
    exact h.mid_new (((Below.refl _ _).alloc (Nat.le_refl _) _).alloc (by simp) _) (bud_zero w pm _) can_empty (fun x hx => hx.elim) (fun k hk => by
      rcases hk with rfl | rfl | ⟨i, _, hk⟩
      · omega
      · exact Nat.le_refl _
      · simp [Value.ownBlock] at hk)
  have H0 := Lib.hid h0
  clear h0
  have hmm := @run_makeMap Try.prog
  have hdn : decide (n < r) = false := by simp; omega
  have hdr : decide ((r : Int) < 0) = false := by simp
  go_enter Try.func25, Try.ntmps25
  go_wp2_with (fail)
  refine HF0.out.mono ?_
  rintro e w' ⟨rfl, rfl⟩
  go_wp2_with (fail)
  obtain ⟨pb, hpb⟩ : ∃ pb, pb = w.heap.size + 1 := ⟨_, rfl⟩
  have h0 := H0.out
  rw [← hpb] at h0 ⊢
  clear hpb H0
  go_loopw [7] (fun i wr => ∃ p : Nat, r ≤ p ∧ p ≤ n ∧ i = .int .i64 p ∧ NewInv n r p ∧ Sat g wr (midP pb pm (rangeT r p) [] * (memP pm n W * R))) (fun i _ => n - (intOf i).toNat)
  case atStart => exact ⟨r, by omega, by omega, rfl, newInv_start n r, h0⟩
  case round =>
    obtain ⟨p, hp1, hp2, rfl, hinv, S1⟩ := hrel
    have HI := Lib.hid hinv
    clear hinv h0
    by_cases hpn : p < n
    · go_wp2_with (fail)
      refine (HF.out _ _ _ S1).mono ?_
      rintro e w' ⟨rfl, rfl⟩
      go_wp2_with (fail)
      obtain ⟨wo, rfl⟩ : ∃ wo : World, wo = wr := ⟨_, rfl⟩
      go_loopw [8] (fun i wr => ∃ k : Nat, k ≤ 8 ∧ i = .int .i64 k ∧ p % 2 ^ k = 0 ∧ p + 2 ^ k ≤ n ∧ Sat g wr (midP pb pm (rangeT r p) [] * (memP pm n W * R))) (fun i _ => 8 - (intOf i).toNat)
      case atStart => exact ⟨0, by omega, rfl, by rw [Nat.pow_zero, Nat.mod_one], by simp; omega, S1⟩
      case round =>
        obtain ⟨k, hk, rfl, hmod, hfit, S2⟩ := hrel
        obtain ⟨P, hP⟩ : ∃ P : Nat, 2 ^ k = P := ⟨_, rfl⟩
        have hPz : (2 : Int) ^ k = (P : Int) := by rw [← hP]; push_cast; rfl
        have hP0 : 0 < P := by rw [← hP]; exact Nat.two_pow_pos k
        have hPn : P ≤ 256 := by rw [hP] at hfit; omega
        have HP := Lib.hid hP
        obtain ⟨q, hq⟩ : ∃ q : Nat, p % (2 * P) = q := ⟨_, rfl⟩
        have hqz : ((p : Int)).tmod (2 * P) = (q : Int) := by
          rw [Int.tmod_eq_emod_of_nonneg (by omega), ← hq]; push_cast; rfl
        have HQ := Lib.hid hq
        have HMOD := Lib.hid hmod
        rw [hP] at hfit
        clear hP hq hmod S1
        have HS2 : Hid (∀ w', Sat g w' (midP pb pm (rangeT r p) [] * (memP pm n W * R)) → Calls Try.prog 15 #[.pointer (some ⟨pm, 0, none⟩)] w' fun e w'' => e = .returned (.int .i64 n) ∧ w' = w'') := Lib.hid fun w' h' => HF.out w' pb _ h'
        have hw1 : IntKind.i64.wrap (2 * (P : Int)) = 2 * (P : Int) := IntWalk.i64_in _ ⟨by omega, by omega⟩
        have hw2 : IntKind.i64.wrap ((p : Int) + 2 * (P : Int)) = (p : Int) + 2 * (P : Int) := IntWalk.i64_in _ ⟨by omega, by omega⟩
        have hw3 : IntKind.i64.wrap (q : Int) = (q : Int) := IntWalk.i64_in _ ⟨by omega, by have := HQ.out; have := Nat.mod_le p (2 * P); omega⟩
        have hz0 : (2 * (P : Int) == 0) = false := by simp; omega
        have k0 : (0 : Int) ≤ (k : Int) := by omega
        have k64 : (k : Int) ≤ 64 := by omega
        have HS3 : Hid (∀ w', wr.drew = w' → Calls Try.prog 15 #[.pointer (some ⟨pm, 0, none⟩)] w' fun e w'' => e = .returned (.int .i64 n) ∧ w' = w'') := Lib.hid fun w' hw => HS2.out w' (by rw [← hw]; exact S2.drew)
        have hw4 : IntKind.i64.wrap (P : Int) = (P : Int) := IntWalk.i64_in _ ⟨by omega, by omega⟩
        have hw5 : IntKind.i64.wrap ((p : Int) + (P : Int)) = (p : Int) + (P : Int) := IntWalk.i64_in _ ⟨by omega, by omega⟩
        by_cases hgo : k < 8 ∧ q = 0 ∧ p + 2 * P ≤ n
        · obtain ⟨hc1, hc2, hc3⟩ := hgo
          have hd1 : decide ((k : Int) < 8) = true := by simp; omega
          have hd2 : ((q : Int) == 0) = true := by simp; omega
          have hd3 : decide ((p : Int) + 2 * (P : Int) ≤ (n : Int)) = true := by simp; omega
          have HR : Hid (p % 2 ^ (k + 1) = 0 ∧ p + 2 ^ (k + 1) ≤ n) := Lib.hid (by
            have h1 := HQ.out
            rw [Nat.pow_succ, HP.out, Nat.mul_comm P 2]
            exact ⟨by omega, by omega⟩)
          clear hc2
          go_wp2_with (fail)
          refine region_class (fun w' => wr.drew = w') (by kernel_rfl) (by kernel_rfl) rfl ?_
          intro _
          repeat (first | go_big_quiet_step (((go_at_call 15; exact class_same (HS3.out _ (Wc.h _))))) | quiet_step ((fail)))
          refine wpQuiet_nil ?_
          rintro _ rfl
          clear hw1 hw2 hw3 hw4 hw5 hd1 hd2 hd3 hz0 hqz hPz
          go_wp2_with (fail)
          go_roundw
          case rel => exact ⟨k + 1, by omega, by go_num, HR.out.1, HR.out.2, S2.drew⟩
          case measure => simp [intOf]; omega
        · obtain ⟨a, ha⟩ : ∃ a, p = a * 2 ^ k := ⟨p / 2 ^ k, by have h1 := HMOD.out; have h2 := Nat.div_add_mod p (2 ^ k); rw [h1, Nat.mul_comm] at h2; omega⟩
          have hfa : (a + 1) * 2 ^ k ≤ n := by rw [Nat.add_mul, ← ha, HP.out]; omega
          have hput := s_bput pb pm (rangeT r p) [] a k (p : Int) g wr.drew _ S2.drew (by rw [ha]) hk (by omega) (by rw [ha]; exact range_dis) (by
            have h1 := HI.out
            rw [ha] at h1 ⊢
            exact new_bud h1 hfa)
          have hpp : plusQ (rangeT r p) a k = rangeT r (p + P) := by
            rw [ha, range_plus (by rw [← ha]; exact hp1), Nat.add_mul, HP.out]; simp
          have hinv2 : NewInv n r (p + P) := by
            have h1 := HI.out
            rw [ha] at h1
            have h2 := newInv_step hk h1 (fun h8 hz => by
              rw [HP.out] at hz ⊢
              have e1 : a * P = p := by rw [ha, HP.out]
              rw [e1] at hz ⊢
              have e2 := HQ.out
              refine Nat.lt_of_not_le fun h3 => hgo ⟨h8, by omega, by omega⟩)
            rw [Nat.add_mul, ← ha, HP.out] at h2
            simpa using h2
          rw [hpp] at hput
          have HPUT := Lib.hid hput
          have HINV := Lib.hid hinv2
          have hfp : p + P ≤ n := hfit
          clear hput hinv2 hpp ha hfa HMOD
          have hway : 8 ≤ k ∨ (k < 8 ∧ q ≠ 0) ∨ (k < 8 ∧ q = 0 ∧ n < p + 2 * P) := by omega
          clear hgo
          rcases hway with hc1 | ⟨hc1, hc2⟩ | ⟨hc1, hc2, hc3⟩
          · have hd1 : decide ((k : Int) < 8) = false := by simp; omega
            go_wp2_with (fail)
            refine region_class (fun w' => wr.drew = w') (by kernel_rfl) (by kernel_rfl) rfl ?_
            intro _
            repeat (first | go_big_quiet_step (((go_at_call 15; exact class_same (HS3.out _ (Wc.h _))))) | quiet_step ((fail)))
            refine wpQuiet_nil ?_
            rintro _ rfl
            go_wp2_with (fail)
            refine HPUT.out.mono ?_
            rintro e w5 ⟨rfl, S5⟩
            go_wp2_with (fail)
            go_roundw
            case rel => first | exact ⟨p + P, by omega, by omega, by go_num, HINV.out, S5⟩ | ((repeat apply Exists.intro); exact ⟨⟨p + P, by omega, by omega, by go_num, HINV.out, S5⟩, rfl⟩)
            case measure => simp [intOf]; omega
          · have hd1 : decide ((k : Int) < 8) = true := by simp; omega
            have hd2 : ((q : Int) == 0) = false := by simp; omega
            go_wp2_with (fail)
            refine region_class (fun w' => wr.drew = w') (by kernel_rfl) (by kernel_rfl) rfl ?_
            intro _
            repeat (first | go_big_quiet_step (((go_at_call 15; exact class_same (HS3.out _ (Wc.h _))))) | quiet_step ((fail)))
            refine wpQuiet_nil ?_
            rintro _ rfl
            go_wp2_with (fail)
            refine HPUT.out.mono ?_
            rintro e w5 ⟨rfl, S5⟩
            go_wp2_with (fail)
            go_roundw
            case rel => first | exact ⟨p + P, by omega, by omega, by go_num, HINV.out, S5⟩ | ((repeat apply Exists.intro); exact ⟨⟨p + P, by omega, by omega, by go_num, HINV.out, S5⟩, rfl⟩)
            case measure => simp [intOf]; omega
          · have hd1 : decide ((k : Int) < 8) = true := by simp; omega
            have hd2 : ((q : Int) == 0) = true := by simp; omega
            have hd3 : decide ((p : Int) + 2 * (P : Int) ≤ (n : Int)) = false := by simp; omega
            clear hc2
            go_wp2_with (fail)
            refine region_class (fun w' => wr.drew = w') (by kernel_rfl) (by kernel_rfl) rfl ?_
            intro _
            repeat (first | go_big_quiet_step (((go_at_call 15; exact class_same (HS3.out _ (Wc.h _))))) | quiet_step ((fail)))
            refine wpQuiet_nil ?_
            rintro _ rfl
            go_wp2_with (fail)
            refine HPUT.out.mono ?_
            rintro e w5 ⟨rfl, S5⟩
            go_wp2_with (fail)
            go_roundw
            case rel => first | exact ⟨p + P, by omega, by omega, by go_num, HINV.out, S5⟩ | ((repeat apply Exists.intro); exact ⟨⟨p + P, by omega, by omega, by go_num, HINV.out, S5⟩, rfl⟩)
            case measure => simp [intOf]; omega
    · obtain rfl : p = n := by omega
      go_wp2_with (fail)
      refine (HF.out _ _ _ S1).mono ?_
      rintro e w' ⟨rfl, rfl⟩
      go_wp2_with (fail)
      go_ret2
      exact ⟨pb, rfl, S1⟩

end Go.Proofs.Ytoiiblajgkdabaa
