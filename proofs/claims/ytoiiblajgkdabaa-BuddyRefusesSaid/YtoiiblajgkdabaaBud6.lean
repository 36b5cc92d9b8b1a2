/- What Alloc of package buddy returns and writes. -/
import Derived.Test.YtoiiblajgkdabaaBud5
import Derived.WalkMore
namespace Go.Proofs.Ytoiiblajgkdabaa
set_option linter.unusedSimpArgs false
set_option linter.unusedVariables false
set_option maxRecDepth 100000
open Go.RowKit
set_option maxHeartbeats 4000000

theorem split_eq {T : Nat → Prop} {c j : Nat} (h : QFull T c (j + 1)) : plusQ (minusQ T c (j + 1)) (2 * c + 1) j = minusQ T (2 * c) j := by
  funext x
  apply propext
  unfold plusQ minusQ
  have hd := div_one x j
  constructor
  · rintro (⟨h1, h2⟩ | h1)
    · exact ⟨h1, fun e => h2 (by rw [hd, e]; omega)⟩
    · exact ⟨h x (by rw [hd, h1]; omega), by omega⟩
  · rintro ⟨h1, h2⟩
    by_cases e : x / 2 ^ j = 2 * c + 1
    · exact Or.inr e
    · exact Or.inl ⟨h1, fun e' => by rw [hd] at e'; omega⟩
theorem split_full {T : Nat → Prop} {c j : Nat} (h : QFull T c (j + 1)) : QFull T (2 * c) j := fun x hx => h x (by rw [div_one, hx]; omega)
theorem split_dis {T : Nat → Prop} {c j : Nat} : ∀ x, x / 2 ^ j = 2 * c + 1 → ¬ minusQ T c (j + 1) x := fun x hx h => h.2 (by rw [div_one, hx]; omega)
theorem split_bud {T : Nat → Prop} {c j : Nat} : ¬ QFull (minusQ T c (j + 1)) (budQ (2 * c + 1)) j := fun h => by
  have hb : budQ (2 * c + 1) = 2 * c := by unfold budQ; rw [if_neg (by omega)]; omega
  rw [hb] at h
  exact (h _ (in_block (2 * c) j)).2 (by rw [div_one, in_block]; omega)

theorem full_small {T : Nat → Prop} {c j : Nat} (h : Small T) (hq : QFull T c j) : (c + 1) * 2 ^ j ≤ 256 := by
  have h0 := Nat.two_pow_pos j
  have h1 := h _ (hq (c * 2 ^ j + (2 ^ j - 1)) (by rw [Nat.add_comm, Nat.add_mul_div_right _ _ h0, Nat.div_eq_of_lt (by omega)]; omega))
  rw [Nat.add_mul]; omega

/-- What Alloc does: either no free block is great enough, or the first one of the least order that is. -/
inductive AllocPost (g : World) (pb pm : Nat) (T : Nat → Prop) (H : List Blk) (order : Nat) (R : HP) (e : Ending) (w' : World) : Prop
  | no (he : e = .returned (.tuple #[.int .i64 0, .int .i64 6])) (hn : ∀ k, order ≤ k → k ≤ 8 → ∀ a, ¬ QCan T a k) (hs : Sat g w' (midP pb pm T H * R))
  | yes (a k f : Nat) (hk : order ≤ k) (hk8 : k ≤ 8) (hc : QCan T a k) (hl : ∀ j, order ≤ j → j < k → ∀ b, ¬ QCan T b j) (hf : ∀ b, QCan T b k → a ≤ b) (hff : f = a * 2 ^ k) (he : e = .returned (.tuple #[.int .i64 f, .int .i64 0])) (hs : Sat g w' (midP pb pm (minusQ T (f / 2 ^ order) order) (H ++ [((f : Int), (order : Int))]) * R))
theorem s_alloc_bad (pb : Nat) (order : Int) (w : World) (h : order < 0 ∨ 8 < order) : Calls Try.prog 16 #[.pointer (some ⟨pb, 0, none⟩), .int .i64 order] w fun e w' => e = .returned (.tuple #[.int .i64 0, .int .i64 1]) ∧ w = w' := by
  have hh : order < 0 ∨ (¬ order < 0 ∧ 8 < order) := by omega
  clear h
  rcases hh with h | ⟨h, h'⟩
  all_goals
    go_enter Try.func16, Try.ntmps16
    go_wp2_with (fail)
    go_step3
    go_wp2_with (fail)
    try rw [Exit.noGoto_ret]
    go_ret2
    exact ⟨rfl, rfl⟩

theorem s_alloc (pb pm : Nat) (T : Nat → Prop) (H : List Blk) (order : Nat) (g w : World) (R : HP) (h : Sat g w (midP pb pm T H * R)) (ho : order ≤ 8) (hH : ∀ x : Nat, T x → ∀ o : Int, ((x : Int), o) ∉ H) :
    Calls Try.prog 16 #[.pointer (some ⟨pb, 0, none⟩), .int .i64 order] w (AllocPost g pb pm T H order R) := by
  have h1 : Sat g (w.alloc (.cells #[.int .i64 0, .int .i64 0] 39)) (xP w.heap.size 0 0 * (midP pb pm T H * R)) := h.x_new 0 0 _
  have H1 := Lib.hid h1
  have HSM : Hid (Small T) := Lib.hid (by obtain ⟨_, _, _, _, _, hs, _⟩ := h.mid; exact hs)
  clear h1
  have hd0 : decide ((order : Int) < 0) = false := by simp
  have hd8 : decide (8 < order) = false := by simp; omega
  go_enter Try.func16, Try.ntmps16
  go_wp2_with (fail)
  go_step3
  go_wp2_with (fail)
  go_step3
  have h1 := H1.out
  obtain ⟨xb, hxb⟩ : ∃ xb, xb = w.heap.size := ⟨_, rfl⟩
  rw [← hxb] at h1 ⊢
  clear hxb H1
  go_wp2_with (fail)
  go_loopw [7] (fun i wr => ∃ k : Nat, order ≤ k ∧ k ≤ 9 ∧ i = .int .i64 k ∧ Hid (∀ j, order ≤ j → j < k → ∀ a, ¬ QCan T a j) ∧ Sat g wr (xP xb 0 0 * (midP pb pm T H * R))) (fun i _ => 9 - (intOf i).toNat)
  case atStart => exact ⟨order, by omega, by omega, rfl, Lib.hid (fun j h1 h2 => by omega), h1⟩
  case round =>
    obtain ⟨k, hk1, hk2, rfl, HN, S1⟩ := hrel
    clear h1
    by_cases hk9 : k = 9
    · have h8k : (8 : Int) < (k : Int) := by omega
      have HN' : Hid (∀ k', order ≤ k' → k' ≤ 8 → ∀ a, ¬ QCan T a k') := Lib.hid fun k' h1 h2 => HN.out k' h1 (by omega)
      clear hk9
      go_wp2_with (fail)
      try rw [Exit.noGoto_ret]
      go_ret2
      exact .no rfl HN'.out S1.right
    · have hk8 : k ≤ 8 := by omega
      have k0 : (0 : Int) ≤ (k : Int) := by omega
      have k9 : (k : Int) < 9 := by omega
      obtain ⟨hb, A, C, F, hcan, hlen, g0, g10, hmap, hls⟩ := S1.swap.mid_read
      obtain ⟨gl, gel⟩ := hls k (by omega)
      have hfl := hlen k (by omega)
      clear hk9
      by_cases hne : F k = []
      · have hno : ∀ a, ¬ QCan T a k := fun a hc => by
          have := ((hcan k (by omega)).2 _).2 ⟨a, rfl, hc⟩
          rw [hne] at this; simp at this
        have HN' : Hid (∀ j, order ≤ j → j < k + 1 → ∀ a, ¬ QCan T a j) := Lib.hid fun j h1 h2 => by
          by_cases e : j = k
          · rw [e]; exact hno
          · exact HN.out j h1 (by omega)
        rw [hne] at gl
        simp only [List.length_nil] at gl
        clear hne hls gel hcan hlen hno hfl
        go_wp2_with (fail)
        go_roundw
        case rel => exact ⟨k + 1, by omega, by omega, by go_num, HN', S1⟩
        case measure => simp [intOf]; omega
      · obtain ⟨gb, hA, hcell⟩ := gel.resolve_left hne
        have hlp : 0 < (F k).length := List.length_pos_iff.2 hne
        have q0 := hcell 0 hlp
        obtain ⟨a, ha, hc⟩ := ((hcan k (by omega)).2 _).1 (List.getElem_mem hlp)
        have hmin : ∀ b, QCan T b k → a ≤ b := fun b hcb => by
          have hm := ((hcan k (by omega)).2 _).2 ⟨b, rfl, hcb⟩
          obtain ⟨j, hj, hje⟩ := List.getElem_of_mem hm
          have hle : (F k)[0] ≤ (F k)[j] := by
            rcases Nat.eq_zero_or_pos j with h0 | h0
            · subst h0; exact Int.le_refl _
            · exact Int.le_of_lt (List.pairwise_iff_getElem.1 (hcan k (by omega)).1 0 j hlp hj h0)
          rw [ha, hje] at hle
          have h2 : a * 2 ^ k ≤ b * 2 ^ k := by omega
          exact Nat.le_of_mul_le_mul_right h2 (Nat.two_pow_pos k)
        rw [hA] at gl
        obtain ⟨f, hf⟩ : ∃ f : Nat, f = a * 2 ^ k := ⟨_, rfl⟩
        rw [ha, ← hf] at q0
        have hlp' : (0 : Int) < (F k).length := by omega
        have x1 := S1.inv
        have xc0 := x1.c0
        have xc1 := x1.c1
        have xf0 := x1.f0
        have xf1 := x1.f1
        have HF := Lib.hid hf
        have HMIN := Lib.hid hmin
        have HC := Lib.hid hc
        have hdl : decide (0 < (F k).length) = true := by simp; omega
        have HSX : Hid (∀ (w' : World), Touch (· = xb) wr w' → XIn w' xb f k → Sat g w' (xP xb f k * (midP pb pm T H * R))) := Lib.hid fun w' t i => S1.x_set t i
        have HX1 := Lib.hid x1
        clear hf hmin hc ha hne hls gel hcan hlen hcell hA x1
        have hTf : T f := by rw [HF.out]; exact HC.out.1 _ (in_block a k)
        go_wp2_with (fail)
        have S2 := HSX.out (wr.setCell ⟨xb, 0, none⟩ (.int .i64 f) |>.setCell ⟨xb, 1, none⟩ (.int .i64 k)) ((x_touch xb 0 _).trans (x_touch xb 1 _)) ((HX1.out.set0 f).set1 k)
        obtain ⟨w2, hw2⟩ : ∃ w2, w2 = (wr.setCell ⟨xb, 0, none⟩ (.int .i64 f) |>.setCell ⟨xb, 1, none⟩ (.int .i64 k)) := ⟨_, rfl⟩
        rw [← hw2] at S2 ⊢
        clear hw2 HSX HX1 xc0 xc1 xf0 xf1 S1 gl q0 g0 g10 hmap
        refine (s_btake pb pm T H a k (f : Int) g w2 _ S2.swap (by rw [HF.out]) hk8 HC.out).mono ?_
        rintro e w3 ⟨rfl, S3⟩
        have S4 := S3.swap
        clear S2 S3
        go_wp2_with (fail)
        go_loopw [] (fun wr => ∃ j c : Nat, order ≤ j ∧ j ≤ 8 ∧ Hid (f = c * 2 ^ j) ∧ Hid (QFull T c j) ∧ Sat g wr (xP xb f j * (midP pb pm (minusQ T c j) H * R))) (fun wr => (intOf ((wr.cell? ⟨xb, 1, none⟩).getD undef)).toNat)
        case atStart => exact ⟨k, a, by omega, by omega, Lib.hid HF.out, Lib.hid HC.out.1, S4⟩
        case round =>
          obtain ⟨j, c, hj1, hj2, HFJ, HQJ, S5⟩ := hrel
          clear S4
          have xc0 := S5.inv.c0
          have xc1 := S5.inv.c1
          have xf1 := S5.inv.f1
          by_cases hlt : order < j
          · have hdo : decide (order < j) = true := by simp; omega
            obtain ⟨i, rfl⟩ : ∃ i, j = i + 1 := ⟨j - 1, by omega⟩
            have hcast : ((i + 1 : Nat) : Int) = (i : Int) + 1 := by push_cast; rfl
            have HM0 : Hid ((intOf ((wr.cell? ⟨xb, 1, none⟩).getD undef)).toNat = i + 1) := Lib.hid (by rw [xc1]; simp [intOf])
            rw [hcast] at xc1
            have hwi : IntKind.i64.wrap ((i : Int) + 1 - 1) = (i : Int) := by rw [Int.add_sub_cancel]; exact IntWalk.i64_in _ ⟨by omega, by omega⟩
            have hgt : decide ((order : Int) < (i : Int) + 1) = true := by simp; omega
            obtain ⟨Q, hQ⟩ : ∃ Q : Nat, 2 ^ i = Q := ⟨_, rfl⟩
            have hQz : (2 : Int) ^ i = (Q : Int) := by rw [← hQ]; push_cast; rfl
            have hfc : f = 2 * c * Q := by rw [HFJ.out, ← hQ, Nat.pow_succ, Nat.mul_comm 2 c, Nat.mul_assoc, Nat.mul_comm (2 ^ i) 2]
            have hsm : (c + 1) * (2 * Q) ≤ 256 := by
              have h1 := full_small HSM.out HQJ.out
              rw [Nat.pow_succ, hQ, Nat.mul_comm Q 2] at h1
              exact h1
            have hsm2 : (2 * c + 1 + 1) * Q ≤ 256 := by
              have e : (2 * c + 1 + 1) * Q = (c + 1) * (2 * Q) := by rw [show 2 * c + 1 + 1 = (c + 1) * 2 by omega, Nat.mul_assoc]
              omega
            have hfq : (2 * c + 1) * Q = f + Q := by rw [Nat.add_mul, ← hfc, Nat.one_mul]
            have hQ1 : 1 ≤ Q := by rw [← hQ]; exact Nat.two_pow_pos i
            have hfQ : f + Q ≤ 256 := by
              have : (2 * c + 1 + 1) * Q = f + Q + Q := by rw [Nat.add_mul, hfq, Nat.one_mul]
              omega
            have HP1 : Hid (plusQ (minusQ T c (i + 1)) (2 * c + 1) i = minusQ T (2 * c) i) := Lib.hid (split_eq HQJ.out)
            have HQ1 : Hid (QFull T (2 * c) i) := Lib.hid (split_full HQJ.out)
            have S6 := S5.x_set (w' := wr.setCell ⟨xb, 1, none⟩ (.int .i64 i)) (x_touch xb 1 _) (S5.inv.set1 i)
            have HPUT : Hid (∀ w', Sat g w' (xP xb f i * (midP pb pm (minusQ T c (i + 1)) H * R)) → Calls Try.prog 49 #[.pointer (some ⟨pb, 0, none⟩), .agg #[.int .i64 ((f : Int) + (Q : Int)), .int .i64 i]] w' fun e w' => e = .returned (.tuple #[]) ∧ Sat g w' (xP xb f i * (midP pb pm (minusQ T (2 * c) i) H * R))) := Lib.hid fun w' h' => by
              have h1 := s_bput pb pm (minusQ T c (i + 1)) H (2 * c + 1) i ((f : Int) + (Q : Int)) g w' (xP xb f i * R) h'.swap (by rw [hQ]; omega) (by omega) (by rw [hQ]; exact hsm2) split_dis (fun _ => split_bud)
              rw [HP1.out] at h1
              exact h1.mono fun e w' ⟨h1, h2⟩ => ⟨h1, h2.swap⟩
            have HQE := Lib.hid hQ
            have HFC := Lib.hid hfc
            have hwf : IntKind.i64.wrap ((f : Int) + (Q : Int)) = (f : Int) + (Q : Int) := IntWalk.i64_in _ ⟨by omega, by omega⟩
            have hwq : IntKind.i64.wrap (Q : Int) = (Q : Int) := IntWalk.i64_in _ ⟨by omega, by omega⟩
            have i0 : (0 : Int) ≤ (i : Int) := by omega
            have i64 : (i : Int) ≤ 64 := by omega
            clear hcast hQ hfc hsm hsm2 hfq hfQ HP1
            go_wp2_with (fail)
            obtain ⟨w5, hw5⟩ : ∃ w5, w5 = wr.setCell ⟨xb, 1, none⟩ (.int .i64 i) := ⟨_, rfl⟩
            rw [← hw5] at S6 ⊢
            clear hw5 S5 xc0 xc1 xf1
            have q0 : ∀ p : Wc (fun w' => w5.drew = w'), p.w.cell? ⟨xb, 0, none⟩ = some (.int .i64 f) := fun p => by rw [← p.h]; exact S6.drew.inv.c0
            have q1 : ∀ p : Wc (fun w' => w5.drew = w'), p.w.cell? ⟨xb, 1, none⟩ = some (.int .i64 i) := fun p => by rw [← p.h]; exact S6.drew.inv.c1
            refine region_tail (fun w' => w5.drew = w') 10 (by kernel_rfl) (by kernel_rfl) rfl ?_
            intro _
            simp only [List.take_succ_cons, List.take_zero, List.drop_succ_cons, List.drop_zero]
            (repeat (first | go_big_quiet_step (fail) | quiet_step (fail)))
            refine wpQuiet_nil ?_
            rintro _ rfl
            clear q0 q1
            go_wp2_with (fail)
            refine (HPUT.out _ S6.drew).mono ?_
            rintro e w7 ⟨rfl, S7⟩
            have z0 := S7.inv.c1
            go_wp2_with (fail)
            go_roundw
            case rel => first | exact ⟨i, 2 * c, by omega, by omega, Lib.hid (by rw [HFC.out, HQE.out]), HQ1, S7⟩ | ((repeat apply Exists.intro); exact ⟨⟨i, 2 * c, by omega, by omega, Lib.hid (by rw [HFC.out, HQE.out]), HQ1, S7⟩, rfl⟩)
            case measure => rw [HM0.out, z0]; simp [intOf]
          · obtain rfl : j = order := by omega
            have hgt : decide ((j : Int) < (j : Int)) = false := by simp
            have hc' : f / 2 ^ j = c := by rw [HFJ.out]; exact in_block c j
            have S8 := S5.drew
            have q0 : ∀ p : Wc (fun w' => wr.drew = w'), p.w.cell? ⟨xb, 0, none⟩ = some (.int .i64 f) := fun p => by rw [← p.h]; exact S8.inv.c0
            have q1 : ∀ p : Wc (fun w' => wr.drew = w'), p.w.cell? ⟨xb, 1, none⟩ = some (.int .i64 j) := fun p => by rw [← p.h]; exact S8.inv.c1
            obtain ⟨hb, _, _, _, _, _, _, g10, _, _⟩ := S8.swap.mid_read
            have q2 : ∀ p : Wc (fun w' => wr.drew = w'), p.w.cell? ⟨pb, 10, none⟩ = some (.map (some hb)) := fun p => by rw [← p.h]; exact g10
            have HC' := Lib.hid hc'
            have hnin : ((f : Int), (j : Int)) ∉ H := hH f hTf j
            clear hc'
            go_wp2_with (fail)
            refine region_tail (fun w' => wr.drew = w') 5 (by kernel_rfl) (by kernel_rfl) rfl ?_
            intro _
            simp only [List.take_succ_cons, List.take_zero, List.drop_succ_cons, List.drop_zero]
            (repeat (first | go_big_quiet_step (fail) | quiet_step (fail)))
            refine wpQuiet_nil ?_
            rintro _ rfl
            clear q0 q1 q2
            refine list_lay S8.swap (by rfl) _ _ _ (by rfl) hb g10 (by rfl) ((f : Int), (j : Int)) (by rfl) (by rfl) hnin fun w9 S9 _ => ?_
            have x0 := S9.swap.inv.c0
            go_wp2_with (fail)
            try rw [Exit.noGoto_ret]
            go_ret2
            exact .yes a k f (by omega) hk8 HC.out HN.out HMIN.out HF.out rfl (by rw [HC'.out]; exact S9.swap.right)

end Go.Proofs.Ytoiiblajgkdabaa
