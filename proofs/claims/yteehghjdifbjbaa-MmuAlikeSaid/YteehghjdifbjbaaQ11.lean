/- Part 11 of the proofs: Bud4, Bud5, Bud6, Scrub. -/
import Derived.Test.YteehghjdifbjbaaQ10
import Derived.Test.YteehghjdifbjbaaQ1
import Derived.Carry
import Derived.WalkMore
import Derived.Laws.IdiomCopy
namespace Go.Proofs.Yteehghjdifbjbaa
set_option linter.unusedSimpArgs false
set_option linter.unusedVariables false
set_option maxRecDepth 100000
open Go.RowKit
set_option maxHeartbeats 4000000

theorem s_frames (pm n : Nat) (W : Nat → Int) (g w : World) (R : HP) (h : Sat g w (memP pm n W * R)) :
    Calls Try.prog 62 #[.pointer (some ⟨pm, 0, none⟩)] w fun e w' => e = .returned (.int .i64 n) ∧ w = w' := by
  obtain ⟨bk, hm, _⟩ := h.mem
  exact frames_any pm bk n W w hm
theorem Sat.mem_n {g w : World} {pm n : Nat} {W : Nat → Int} {R : HP} (h : Sat g w (memP pm n W * R)) : 1 ≤ n ∧ n ≤ 256 := by
  obtain ⟨bk, hm, _⟩ := h.mem
  exact ⟨hm.n1, hm.n2⟩
theorem bud_new_nil (r : Int) (w : World) : Calls Try.prog 30 #[.pointer none, .int .i64 r] w fun e w' => e = .returned (.tuple #[.pointer none, .int .i64 1]) ∧ w = w' := by
  go_enter Try.func30, Try.ntmps30
  go_wp2_with (fail)
  go_ret2
  exact ⟨rfl, rfl⟩
theorem bud_new_no (pm n : Nat) (W : Nat → Int) (r : Int) (g w : World) (R : HP) (h : Sat g w (memP pm n W * R)) (hr : r < 0 ∨ n < r) : Calls Try.prog 30 #[.pointer (some ⟨pm, 0, none⟩), .int .i64 r] w fun e w' => e = .returned (.tuple #[.pointer none, .int .i64 1]) ∧ w = w' := by
  have HF := Lib.hid (s_frames pm n W g w R h)
  have hh : r < 0 ∨ (¬ r < 0 ∧ (n : Int) < r) := by omega
  clear hr
  rcases hh with h1 | ⟨h1, h2⟩
  · go_enter Try.func30, Try.ntmps30
    go_wp2_with (fail)
    go_ret2
    exact ⟨rfl, rfl⟩
  · go_enter Try.func30, Try.ntmps30
    go_wp2_with (fail)
    refine HF.out.mono ?_
    rintro e w' ⟨rfl, rfl⟩
    go_wp2_with (fail)
    go_ret2
    exact ⟨rfl, rfl⟩
theorem bud_nine {k : Nat} (h : k < 9) : k = 0 ∨ k = 1 ∨ k = 2 ∨ k = 3 ∨ k = 4 ∨ k = 5 ∨ k = 6 ∨ k = 7 ∨ k = 8 := by omega
theorem bud_zero (w : World) (pm : Nat) (t : TypeId) : BudIn ((w.alloc (.map #[] 0)).alloc (.cells #[.pointer (some ⟨pm, 0, none⟩), .slice none 0 0, .slice none 0 0, .slice none 0 0, .slice none 0 0, .slice none 0 0, .slice none 0 0, .slice none 0 0, .slice none 0 0, .slice none 0 0, .map (some w.heap.size)] t)) (w.heap.size + 1) pm w.heap.size (fun _ => .slice none 0 0) (fun _ => []) [] := by
  have hsz : (w.alloc (.map #[] 0)).heap.size = w.heap.size + 1 := by simp
  refine ⟨by simp [go_sem], fun i hi => ?_, by simp [go_sem], fun j hj => by simp [go_sem], fun i _ => RowI.nil _ _, fun i j k _ _ h1 _ => by simp [Value.ownBlock] at h1, fun i _ h => by simp [Value.ownBlock] at h, fun i _ h => by simp [Value.ownBlock] at h, by omega, ⟨⟨#[], 0, ?_, rfl, by simp, by simp, by simp⟩, List.nodup_nil⟩, by simp⟩
  · rcases bud_nine hi with h | h | h | h | h | h | h | h | h <;> subst h <;> simp [go_sem]
  · rw [Below.heap_alloc _ _ _ (by simp)]
    exact heap_alloc_new w _
theorem can_empty : CanF (fun _ => False) (fun _ => []) := fun o _ => ⟨List.Pairwise.nil, fun f => by
  simp
  intro a _ h
  exact h.1 _ (in_block a o)⟩
theorem Sat.mid_new {g w w' : World} {pb pm hb : Nat} {V : Nat → Value} {F : Nat → List Int} {T : Nat → Prop} {H : List Blk} {R : HP} (h : Sat g w R) (t : Below w.heap.size w w') (i : BudIn w' pb pm hb V F H) (hc : CanF T F) (hs : Small T) (hk : ∀ k, budS pb hb V k → w.heap.size ≤ k) : Sat g w' (midP pb pm T H * R) :=
  Sat.ex' (hb, V, F) (h.new t ⟨i, hc, hs⟩ (loc_mid _ _ _ _ _ _ _) hk i.slt)
def BudNew (g : World) (pm r n : Nat) (R : HP) (e : Ending) (w' : World) : Prop := ∃ pb, e = .returned (.tuple #[.pointer (some ⟨pb, 0, none⟩), .int .i64 0]) ∧ Sat g w' (midP pb pm (rangeT r n) [] * R)

theorem s_budnew (pm n r : Nat) (W : Nat → Int) (g w : World) (R : HP) (h : Sat g w (memP pm n W * R)) (hr : r ≤ n) :
    Calls Try.prog 30 #[.pointer (some ⟨pm, 0, none⟩), .int .i64 r] w (BudNew g pm r n (memP pm n W * R)) := by
  have HF := Lib.hid (fun (w' : World) (pb : Nat) (T : Nat → Prop) (h' : Sat g w' (midP pb pm T [] * (memP pm n W * R))) => s_frames pm n W g w' _ h'.swap)
  have HF0 := Lib.hid (s_frames pm n W g w R h)
  obtain ⟨n1, n2⟩ := h.mem_n
  have h0 : Sat g ((w.alloc (.map #[] 0)).alloc (.cells #[.pointer (some ⟨pm, 0, none⟩), .slice none 0 0, .slice none 0 0, .slice none 0 0, .slice none 0 0, .slice none 0 0, .slice none 0 0, .slice none 0 0, .slice none 0 0, .slice none 0 0, .map (some w.heap.size)] 127)) (midP (w.heap.size + 1) pm (rangeT r r) [] * (memP pm n W * R)) := by
    have he : rangeT r r = fun _ => False := by funext x; unfold rangeT; exact propext ⟨fun h => by omega, fun h => h.elim⟩
    rw [he]
    exact h.mid_new (((Below.refl _ _).alloc (Nat.le_refl _) _).alloc (by simp) _) (bud_zero w pm _) can_empty (fun x hx => hx.elim) (fun k hk => by
      rcases hk with rfl | rfl | ⟨i, _, hk⟩
      · omega
      · exact Nat.le_refl _
      · simp [Value.ownBlock] at hk)
  have H0 := Lib.hid h0
  clear h0
  have hmm := @run_makeMap Try.prog
  have hdn : decide (n < r) = false := by simp; omega
  have hdr : decide ((r : Int) < 0) = false := by simp
  go_enter Try.func30, Try.ntmps30
  go_wp2_with (fail)
  refine HF0.out.mono ?_
  rintro e w' ⟨rfl, rfl⟩
  go_wp2_with (fail)
  obtain ⟨pb, hpb⟩ : ∃ pb, pb = w.heap.size + 1 := ⟨_, rfl⟩
  have h0 := H0.out
  rw [← hpb] at h0 ⊢
  clear hpb H0
  go_loopw [7] (fun i wr => ∃ p : Nat, r ≤ p ∧ p ≤ n ∧ i = .int .i64 p ∧ NewInv n r p ∧ Sat g wr (midP pb pm (rangeT r p) [] * (memP pm n W * R))) (fun i _ => n - (intOf i).toNat)
  case atStart => exact ⟨r, by omega, by omega, rfl, newInv_start n r, h0⟩
  case round =>
    obtain ⟨p, hp1, hp2, rfl, hinv, S1⟩ := hrel
    have HI := Lib.hid hinv
    clear hinv h0
    by_cases hpn : p < n
    · go_wp2_with (fail)
      refine (HF.out _ _ _ S1).mono ?_
      rintro e w' ⟨rfl, rfl⟩
      go_wp2_with (fail)
      obtain ⟨wo, rfl⟩ : ∃ wo : World, wo = wr := ⟨_, rfl⟩
      go_loopw [8] (fun i wr => ∃ k : Nat, k ≤ 8 ∧ i = .int .i64 k ∧ p % 2 ^ k = 0 ∧ p + 2 ^ k ≤ n ∧ Sat g wr (midP pb pm (rangeT r p) [] * (memP pm n W * R))) (fun i _ => 8 - (intOf i).toNat)
      case atStart => exact ⟨0, by omega, rfl, by rw [Nat.pow_zero, Nat.mod_one], by simp; omega, S1⟩
      case round =>
        obtain ⟨k, hk, rfl, hmod, hfit, S2⟩ := hrel
        obtain ⟨P, hP⟩ : ∃ P : Nat, 2 ^ k = P := ⟨_, rfl⟩
        have hPz : (2 : Int) ^ k = (P : Int) := by rw [← hP]; push_cast; rfl
        have hP0 : 0 < P := by rw [← hP]; exact Nat.two_pow_pos k
        have hPn : P ≤ 256 := by rw [hP] at hfit; omega
        have HP := Lib.hid hP
        obtain ⟨q, hq⟩ : ∃ q : Nat, p % (2 * P) = q := ⟨_, rfl⟩
        have hqz : ((p : Int)).tmod (2 * P) = (q : Int) := by
          rw [Int.tmod_eq_emod_of_nonneg (by omega), ← hq]; push_cast; rfl
        have HQ := Lib.hid hq
        have HMOD := Lib.hid hmod
        rw [hP] at hfit
        clear hP hq hmod S1
        have HS2 : Hid (∀ w', Sat g w' (midP pb pm (rangeT r p) [] * (memP pm n W * R)) → Calls Try.prog 62 #[.pointer (some ⟨pm, 0, none⟩)] w' fun e w'' => e = .returned (.int .i64 n) ∧ w' = w'') := Lib.hid fun w' h' => HF.out w' pb _ h'
        have hw1 : IntKind.i64.wrap (2 * (P : Int)) = 2 * (P : Int) := IntWalk.i64_in _ ⟨by omega, by omega⟩
        have hw2 : IntKind.i64.wrap ((p : Int) + 2 * (P : Int)) = (p : Int) + 2 * (P : Int) := IntWalk.i64_in _ ⟨by omega, by omega⟩
        have hw3 : IntKind.i64.wrap (q : Int) = (q : Int) := IntWalk.i64_in _ ⟨by omega, by have := HQ.out; have := Nat.mod_le p (2 * P); omega⟩
        have hz0 : (2 * (P : Int) == 0) = false := by simp; omega
        have k0 : (0 : Int) ≤ (k : Int) := by omega
        have k64 : (k : Int) ≤ 64 := by omega
        have HS3 : Hid (∀ w', wr.drew = w' → Calls Try.prog 62 #[.pointer (some ⟨pm, 0, none⟩)] w' fun e w'' => e = .returned (.int .i64 n) ∧ w' = w'') := Lib.hid fun w' hw => HS2.out w' (by rw [← hw]; exact S2.drew)
        have hw4 : IntKind.i64.wrap (P : Int) = (P : Int) := IntWalk.i64_in _ ⟨by omega, by omega⟩
        have hw5 : IntKind.i64.wrap ((p : Int) + (P : Int)) = (p : Int) + (P : Int) := IntWalk.i64_in _ ⟨by omega, by omega⟩
        by_cases hgo : k < 8 ∧ q = 0 ∧ p + 2 * P ≤ n
        · obtain ⟨hc1, hc2, hc3⟩ := hgo
          have hd1 : decide ((k : Int) < 8) = true := by simp; omega
          have hd2 : ((q : Int) == 0) = true := by simp; omega
          have hd3 : decide ((p : Int) + 2 * (P : Int) ≤ (n : Int)) = true := by simp; omega
          have HR : Hid (p % 2 ^ (k + 1) = 0 ∧ p + 2 ^ (k + 1) ≤ n) := Lib.hid (by
            have h1 := HQ.out
            rw [Nat.pow_succ, HP.out, Nat.mul_comm P 2]
            exact ⟨by omega, by omega⟩)
          clear hc2
          go_wp2_with (fail)
          refine region_class (fun w' => wr.drew = w') (by kernel_rfl) (by kernel_rfl) rfl ?_
          intro _
          repeat (first | go_big_quiet_step (((go_at_call 62; exact class_same (HS3.out _ (Wc.h _))))) | quiet_step ((fail)))
          refine wpQuiet_nil ?_
          rintro _ rfl
          clear hw1 hw2 hw3 hw4 hw5 hd1 hd2 hd3 hz0 hqz hPz
          go_wp2_with (fail)
          go_roundw
          case rel => exact ⟨k + 1, by omega, by go_num, HR.out.1, HR.out.2, S2.drew⟩
          case measure => simp [intOf]; omega
        · obtain ⟨a, ha⟩ : ∃ a, p = a * 2 ^ k := ⟨p / 2 ^ k, by have h1 := HMOD.out; have h2 := Nat.div_add_mod p (2 ^ k); rw [h1, Nat.mul_comm] at h2; omega⟩
          have hfa : (a + 1) * 2 ^ k ≤ n := by rw [Nat.add_mul, ← ha, HP.out]; omega
          have hput := s_bput pb pm (rangeT r p) [] a k (p : Int) g wr.drew _ S2.drew (by rw [ha]) hk (by omega) (by rw [ha]; exact range_dis) (by
            have h1 := HI.out
            rw [ha] at h1 ⊢
            exact new_bud h1 hfa)
          have hpp : plusQ (rangeT r p) a k = rangeT r (p + P) := by
            rw [ha, range_plus (by rw [← ha]; exact hp1), Nat.add_mul, HP.out]; simp
          have hinv2 : NewInv n r (p + P) := by
            have h1 := HI.out
            rw [ha] at h1
            have h2 := newInv_step hk h1 (fun h8 hz => by
              rw [HP.out] at hz ⊢
              have e1 : a * P = p := by rw [ha, HP.out]
              rw [e1] at hz ⊢
              have e2 := HQ.out
              refine Nat.lt_of_not_le fun h3 => hgo ⟨h8, by omega, by omega⟩)
            rw [Nat.add_mul, ← ha, HP.out] at h2
            simpa using h2
          rw [hpp] at hput
          have HPUT := Lib.hid hput
          have HINV := Lib.hid hinv2
          have hfp : p + P ≤ n := hfit
          clear hput hinv2 hpp ha hfa HMOD
          have hway : 8 ≤ k ∨ (k < 8 ∧ q ≠ 0) ∨ (k < 8 ∧ q = 0 ∧ n < p + 2 * P) := by omega
          clear hgo
          rcases hway with hc1 | ⟨hc1, hc2⟩ | ⟨hc1, hc2, hc3⟩
          · have hd1 : decide ((k : Int) < 8) = false := by simp; omega
            go_wp2_with (fail)
            refine region_class (fun w' => wr.drew = w') (by kernel_rfl) (by kernel_rfl) rfl ?_
            intro _
            repeat (first | go_big_quiet_step (((go_at_call 62; exact class_same (HS3.out _ (Wc.h _))))) | quiet_step ((fail)))
            refine wpQuiet_nil ?_
            rintro _ rfl
            go_wp2_with (fail)
            refine HPUT.out.mono ?_
            rintro e w5 ⟨rfl, S5⟩
            go_wp2_with (fail)
            go_roundw
            case rel => first | exact ⟨p + P, by omega, by omega, by go_num, HINV.out, S5⟩ | ((repeat apply Exists.intro); exact ⟨⟨p + P, by omega, by omega, by go_num, HINV.out, S5⟩, rfl⟩)
            case measure => simp [intOf]; omega
          · have hd1 : decide ((k : Int) < 8) = true := by simp; omega
            have hd2 : ((q : Int) == 0) = false := by simp; omega
            go_wp2_with (fail)
            refine region_class (fun w' => wr.drew = w') (by kernel_rfl) (by kernel_rfl) rfl ?_
            intro _
            repeat (first | go_big_quiet_step (((go_at_call 62; exact class_same (HS3.out _ (Wc.h _))))) | quiet_step ((fail)))
            refine wpQuiet_nil ?_
            rintro _ rfl
            go_wp2_with (fail)
            refine HPUT.out.mono ?_
            rintro e w5 ⟨rfl, S5⟩
            go_wp2_with (fail)
            go_roundw
            case rel => first | exact ⟨p + P, by omega, by omega, by go_num, HINV.out, S5⟩ | ((repeat apply Exists.intro); exact ⟨⟨p + P, by omega, by omega, by go_num, HINV.out, S5⟩, rfl⟩)
            case measure => simp [intOf]; omega
          · have hd1 : decide ((k : Int) < 8) = true := by simp; omega
            have hd2 : ((q : Int) == 0) = true := by simp; omega
            have hd3 : decide ((p : Int) + 2 * (P : Int) ≤ (n : Int)) = false := by simp; omega
            clear hc2
            go_wp2_with (fail)
            refine region_class (fun w' => wr.drew = w') (by kernel_rfl) (by kernel_rfl) rfl ?_
            intro _
            repeat (first | go_big_quiet_step (((go_at_call 62; exact class_same (HS3.out _ (Wc.h _))))) | quiet_step ((fail)))
            refine wpQuiet_nil ?_
            rintro _ rfl
            go_wp2_with (fail)
            refine HPUT.out.mono ?_
            rintro e w5 ⟨rfl, S5⟩
            go_wp2_with (fail)
            go_roundw
            case rel => first | exact ⟨p + P, by omega, by omega, by go_num, HINV.out, S5⟩ | ((repeat apply Exists.intro); exact ⟨⟨p + P, by omega, by omega, by go_num, HINV.out, S5⟩, rfl⟩)
            case measure => simp [intOf]; omega
    · obtain rfl : p = n := by omega
      go_wp2_with (fail)
      refine (HF.out _ _ _ S1).mono ?_
      rintro e w' ⟨rfl, rfl⟩
      go_wp2_with (fail)
      go_ret2
      exact ⟨pb, rfl, S1⟩

end Go.Proofs.Yteehghjdifbjbaa

namespace Go.Proofs.Yteehghjdifbjbaa
set_option linter.unusedSimpArgs false
set_option linter.unusedVariables false
set_option maxRecDepth 100000
open Go.RowKit
set_option maxHeartbeats 4000000

/-- A block that stands in a variable of its own. -/
structure XIn (w : World) (xb : Nat) (f o : Int) : Prop where
  c0 : w.cell? ⟨xb, 0, none⟩ = some (.int .i64 f)
  c1 : w.cell? ⟨xb, 1, none⟩ = some (.int .i64 o)
  f0 : w.frozen? ⟨xb, 0, none⟩ = false
  f1 : w.frozen? ⟨xb, 1, none⟩ = false
  lt : xb < w.heap.size
theorem XIn.heap {w w' : World} {xb : Nat} {f o : Int} (h : XIn w xb f o) (e : w'.heap[xb]? = w.heap[xb]?) : XIn w' xb f o :=
  ⟨(cell_of_heap e _).trans h.c0, (cell_of_heap e _).trans h.c1, (frozen_of_heap e _).trans h.f0, (frozen_of_heap e _).trans h.f1, heap_ltO e h.lt⟩
def xP (xb : Nat) (f o : Int) : HP := ownP (fun k => k = xb) (fun w => XIn w xb f o)
theorem loc_x (xb : Nat) (f o : Int) : Loc (fun k => k = xb) (fun w => XIn w xb f o) := fun _ _ h e => h.heap (e xb rfl)
theorem x_new (w : World) (f o : Int) (t : TypeId) : XIn (w.alloc (.cells #[.int .i64 f, .int .i64 o] t)) w.heap.size f o :=
  ⟨by simp [go_sem], by simp [go_sem], by simp [go_sem], by simp [go_sem], by simp⟩
theorem Sat.x_new {g w : World} {R : HP} (h : Sat g w R) (f o : Int) (t : TypeId) : Sat g (w.alloc (.cells #[.int .i64 f, .int .i64 o] t)) (xP w.heap.size f o * R) :=
  h.new ((Below.refl _ _).alloc (Nat.le_refl _) _) (Go.Proofs.Yteehghjdifbjbaa.x_new w f o t) (loc_x _ _ _) (fun k e => by rw [e]; exact Nat.le_refl _) (fun k e => by rw [e]; simp)
theorem Sat.x_set {g w w' : World} {xb : Nat} {f o f' o' : Int} {R : HP} (h : Sat g w (xP xb f o * R)) (t : Touch (· = xb) w w') (i : XIn w' xb f' o') : Sat g w' (xP xb f' o' * R) :=
  h.touch t i (loc_x _ _ _) (fun k hk => Or.inl hk) (fun k hk => by rw [hk]; exact i.lt)
theorem XIn.set1 {w : World} {xb : Nat} {f o : Int} (h : XIn w xb f o) (o' : Int) : XIn (w.setCell ⟨xb, 1, none⟩ (.int .i64 o')) xb f o' :=
  ⟨by rw [set_far _ _ _ _ _ (by omega)]; exact h.c0, World.cell?_setCell_same' _ _ _ (by rw [h.c1]; rfl), by rw [World.frozen?_setCell]; exact h.f0, by rw [World.frozen?_setCell]; exact h.f1, by simpa using h.lt⟩
theorem XIn.set0 {w : World} {xb : Nat} {f o : Int} (h : XIn w xb f o) (f' : Int) : XIn (w.setCell ⟨xb, 0, none⟩ (.int .i64 f')) xb f' o :=
  ⟨World.cell?_setCell_same' _ _ _ (by rw [h.c0]; rfl), by rw [set_far _ _ _ _ _ (by omega)]; exact h.c1, by rw [World.frozen?_setCell]; exact h.f0, by rw [World.frozen?_setCell]; exact h.f1, by simpa using h.lt⟩
theorem x_touch {w : World} (xb j : Nat) (u : Value) : Touch (· = xb) w (w.setCell ⟨xb, j, none⟩ u) := Touch.setCell (S := (· = xb)) (Touch.refl _ w) (p := ⟨xb, j, none⟩) (Or.inl rfl) u

/-- What a list's cells hold, as the free frames tell. -/
theorem Sat.mid_read {g w : World} {pb pm : Nat} {T : Nat → Prop} {H : List Blk} {R : HP} (h : Sat g w (midP pb pm T H * R)) :
    ∃ (hb : Nat) (A : Nat → Option Addr) (C : Nat → Nat) (F : Nat → List Int), CanF T F ∧ (∀ o, o < 9 → (F o).length ≤ 256) ∧ w.cell? ⟨pb, 0, none⟩ = some (.pointer (some ⟨pm, 0, none⟩)) ∧ w.cell? ⟨pb, 10, none⟩ = some (.map (some hb)) ∧ MapB w hb H ∧
      ∀ o, o < 9 → w.cell? ⟨pb, 1 + o, none⟩ = some (.slice (A o) (F o).length (C o)) ∧ (F o = [] ∨ ∃ gb, A o = some ⟨gb, 0, none⟩ ∧ ∀ j (_ : j < (F o).length), w.cell? ⟨gb, j, none⟩ = some (.int .i64 (F o)[j])) := by
  obtain ⟨hb, V, F, hi, hc, hs, _⟩ := h.mid
  have hall : ∀ o, ∃ (a : Option Addr) (c : Nat), o < 9 → (V o = .slice a (F o).length c ∧ (F o = [] ∨ ∃ gb, a = some ⟨gb, 0, none⟩ ∧ ∀ j (_ : j < (F o).length), w.cell? ⟨gb, j, none⟩ = some (.int .i64 (F o)[j]))) := fun o => by
    by_cases ho : o < 9
    · have hr := hi.rows o ho
      rcases hr.2 with ⟨h1, h2⟩ | ⟨gb, cap, cur, h1, _, hh, _⟩
      · exact ⟨none, 0, fun _ => ⟨by rw [h1, h2], Or.inl (List.length_eq_zero_iff.1 h2)⟩⟩
      · refine ⟨some ⟨gb, 0, none⟩, cap, fun _ => ⟨h1, Or.inr ⟨gb, rfl, fun j hj => ?_⟩⟩⟩
        unfold RowI at hr
        rw [h1] at hr
        rw [World.ownsRow.cellAt hr j (by omega), iCells_get _ j hj]
        simp [hj]
    · exact ⟨none, 0, fun h => absurd h ho⟩
  obtain ⟨A, hA⟩ := Classical.skolem.1 hall
  obtain ⟨C, hC⟩ := Classical.skolem.1 hA
  refine ⟨hb, A, C, F, hc, fun o ho => hc.len hs ho, hi.c0, hi.cm, hi.held, fun o ho => ?_⟩
  obtain ⟨h1, h2⟩ := hC o ho
  exact ⟨by rw [hi.cl o ho, h1], h2⟩
theorem BudIn.lay {w : World} {pb pm hb : Nat} {V : Nat → Value} {F : Nat → List Int} {H H' : List Blk} {w' : World} (h : BudIn w pb pm hb V F H) (t : Touch (· = hb) w w') (m : MapB w' hb H') : BudPost w pb pm hb V F H' w' := by
  have hk : ∀ k, k < w.heap.size → k ≠ hb → w'.heap[k]? = w.heap[k]? := fun k h1 h2 => t.block k h1 h2
  have ep := hk pb h.lt (fun e => h.ne e.symm)
  exact ⟨V, ⟨(cell_of_heap ep _).trans h.c0, fun i hi => (cell_of_heap ep _).trans (h.cl i hi), (cell_of_heap ep _).trans h.cm, fun j hj => (frozen_of_heap ep _).trans (h.free j hj), fun i hi => own_heap' (h.rows i hi) (fun g hg => hk g (h.slt g (Or.inr (Or.inr ⟨i, hi, hg⟩))) (fun e => h.nehb i hi (e ▸ hg))),
    h.apart, h.nepb, h.nehb, h.ne, m, heap_ltO ep h.lt⟩, t.mono (fun k _ e => Or.inr (Or.inl e)), fun k hk => Or.inl hk⟩

/-- A block is minded. -/
theorem list_lay {ops : Array Oper} {rest : List Oper} {o : Oper} {a : Act} {Q : Exit → Act → World → Prop} {pb pm : Nat} {T : Nat → Prop} {H : List Blk} {g w : World} {R : HP} (h : Sat g w (midP pb pm T H * R)) (hgd : o.guard = none) (m k v : Operand)
    (ho : o.op = .mapUpdate 123 m k v) (hb : Nat) (hcm : w.cell? ⟨pb, 10, none⟩ = some (.map (some hb))) (hm : a.eval m = .map (some hb)) (x : Blk) (hk : a.eval k = encB x) (hv : a.eval v = .bool true) (hx : x ∉ H)
    (hK : ∀ w', Sat g w' (midP pb pm T (H ++ [x]) * R) → Touch (· = hb) w w' → wpList Try.prog ops Q rest (a.put o.dst undef) w') : wpList Try.prog ops Q (o :: rest) a w := by
  obtain ⟨hb', V, F, hi, hc, hs, back⟩ := h.mid
  have e := hi.cm
  rw [hcm] at e
  simp only [Option.some.injEq, Value.map.injEq] at e
  subst e
  obtain ⟨w', hr, hm', ht⟩ := run_layB hi.held x hx
  refine wpList_plain hgd fun K hK' => ?_
  unfold Oper.wp
  simp only [execOp, ho, hm, hk, hv]
  simp [hr, Result.andThen]
  exact hK' _ _ (hK w' (back _ _ _ _ (hi.lay ht hm') hc hs) ht)

end Go.Proofs.Yteehghjdifbjbaa

namespace Go.Proofs.Yteehghjdifbjbaa
set_option linter.unusedSimpArgs false
set_option linter.unusedVariables false
set_option maxRecDepth 100000
open Go.RowKit
set_option maxHeartbeats 4000000

theorem split_eq {T : Nat → Prop} {c j : Nat} (h : QFull T c (j + 1)) : plusQ (minusQ T c (j + 1)) (2 * c + 1) j = minusQ T (2 * c) j := by
  funext x
  apply propext
  unfold plusQ minusQ
  have hd := div_one x j
  constructor
  · rintro (⟨h1, h2⟩ | h1)
    · exact ⟨h1, fun e => h2 (by rw [hd, e]; omega)⟩
    · exact ⟨h x (by rw [hd, h1]; omega), by omega⟩
  · rintro ⟨h1, h2⟩
    by_cases e : x / 2 ^ j = 2 * c + 1
    · exact Or.inr e
    · exact Or.inl ⟨h1, fun e' => by rw [hd] at e'; omega⟩
theorem split_full {T : Nat → Prop} {c j : Nat} (h : QFull T c (j + 1)) : QFull T (2 * c) j := fun x hx => h x (by rw [div_one, hx]; omega)
theorem split_dis {T : Nat → Prop} {c j : Nat} : ∀ x, x / 2 ^ j = 2 * c + 1 → ¬ minusQ T c (j + 1) x := fun x hx h => h.2 (by rw [div_one, hx]; omega)
theorem split_bud {T : Nat → Prop} {c j : Nat} : ¬ QFull (minusQ T c (j + 1)) (budQ (2 * c + 1)) j := fun h => by
  have hb : budQ (2 * c + 1) = 2 * c := by unfold budQ; rw [if_neg (by omega)]; omega
  rw [hb] at h
  exact (h _ (in_block (2 * c) j)).2 (by rw [div_one, in_block]; omega)

theorem full_small {T : Nat → Prop} {c j : Nat} (h : Small T) (hq : QFull T c j) : (c + 1) * 2 ^ j ≤ 256 := by
  have h0 := Nat.two_pow_pos j
  have h1 := h _ (hq (c * 2 ^ j + (2 ^ j - 1)) (by rw [Nat.add_comm, Nat.add_mul_div_right _ _ h0, Nat.div_eq_of_lt (by omega)]; omega))
  rw [Nat.add_mul]; omega

/-- What Alloc does: either no free block is great enough, or the first one of the least order that is. -/
inductive AllocPost (g : World) (pb pm : Nat) (T : Nat → Prop) (H : List Blk) (order : Nat) (R : HP) (e : Ending) (w' : World) : Prop
  | no (he : e = .returned (.tuple #[.int .i64 0, .int .i64 6])) (hn : ∀ k, order ≤ k → k ≤ 8 → ∀ a, ¬ QCan T a k) (hs : Sat g w' (midP pb pm T H * R))
  | yes (a k f : Nat) (hk : order ≤ k) (hk8 : k ≤ 8) (hc : QCan T a k) (hl : ∀ j, order ≤ j → j < k → ∀ b, ¬ QCan T b j) (hf : ∀ b, QCan T b k → a ≤ b) (hff : f = a * 2 ^ k) (he : e = .returned (.tuple #[.int .i64 f, .int .i64 0])) (hs : Sat g w' (midP pb pm (minusQ T (f / 2 ^ order) order) (H ++ [((f : Int), (order : Int))]) * R))
theorem s_alloc_bad (pb : Nat) (order : Int) (w : World) (h : order < 0 ∨ 8 < order) : Calls Try.prog 64 #[.pointer (some ⟨pb, 0, none⟩), .int .i64 order] w fun e w' => e = .returned (.tuple #[.int .i64 0, .int .i64 1]) ∧ w = w' := by
  have hh : order < 0 ∨ (¬ order < 0 ∧ 8 < order) := by omega
  clear h
  rcases hh with h | ⟨h, h'⟩
  all_goals
    go_enter Try.func64, Try.ntmps64
    go_wp2_with (fail)
    go_step3
    go_wp2_with (fail)
    try rw [Exit.noGoto_ret]
    go_ret2
    exact ⟨rfl, rfl⟩

theorem s_alloc (pb pm : Nat) (T : Nat → Prop) (H : List Blk) (order : Nat) (g w : World) (R : HP) (h : Sat g w (midP pb pm T H * R)) (ho : order ≤ 8) (hH : ∀ x : Nat, T x → ∀ o : Int, ((x : Int), o) ∉ H) :
    Calls Try.prog 64 #[.pointer (some ⟨pb, 0, none⟩), .int .i64 order] w (AllocPost g pb pm T H order R) := by
  have h1 : Sat g (w.alloc (.cells #[.int .i64 0, .int .i64 0] 130)) (xP w.heap.size 0 0 * (midP pb pm T H * R)) := h.x_new 0 0 _
  have H1 := Lib.hid h1
  have HSM : Hid (Small T) := Lib.hid (by obtain ⟨_, _, _, _, _, hs, _⟩ := h.mid; exact hs)
  clear h1
  have hd0 : decide ((order : Int) < 0) = false := by simp
  have hd8 : decide (8 < order) = false := by simp; omega
  go_enter Try.func64, Try.ntmps64
  go_wp2_with (fail)
  go_step3
  go_wp2_with (fail)
  go_step3
  have h1 := H1.out
  obtain ⟨xb, hxb⟩ : ∃ xb, xb = w.heap.size := ⟨_, rfl⟩
  rw [← hxb] at h1 ⊢
  clear hxb H1
  go_wp2_with (fail)
  go_loopw [7] (fun i wr => ∃ k : Nat, order ≤ k ∧ k ≤ 9 ∧ i = .int .i64 k ∧ Hid (∀ j, order ≤ j → j < k → ∀ a, ¬ QCan T a j) ∧ Sat g wr (xP xb 0 0 * (midP pb pm T H * R))) (fun i _ => 9 - (intOf i).toNat)
  case atStart => exact ⟨order, by omega, by omega, rfl, Lib.hid (fun j h1 h2 => by omega), h1⟩
  case round =>
    obtain ⟨k, hk1, hk2, rfl, HN, S1⟩ := hrel
    clear h1
    by_cases hk9 : k = 9
    · have h8k : (8 : Int) < (k : Int) := by omega
      have HN' : Hid (∀ k', order ≤ k' → k' ≤ 8 → ∀ a, ¬ QCan T a k') := Lib.hid fun k' h1 h2 => HN.out k' h1 (by omega)
      clear hk9
      go_wp2_with (fail)
      try rw [Exit.noGoto_ret]
      go_ret2
      exact .no rfl HN'.out S1.right
    · have hk8 : k ≤ 8 := by omega
      have k0 : (0 : Int) ≤ (k : Int) := by omega
      have k9 : (k : Int) < 9 := by omega
      obtain ⟨hb, A, C, F, hcan, hlen, g0, g10, hmap, hls⟩ := S1.swap.mid_read
      obtain ⟨gl, gel⟩ := hls k (by omega)
      have hfl := hlen k (by omega)
      clear hk9
      by_cases hne : F k = []
      · have hno : ∀ a, ¬ QCan T a k := fun a hc => by
          have := ((hcan k (by omega)).2 _).2 ⟨a, rfl, hc⟩
          rw [hne] at this; simp at this
        have HN' : Hid (∀ j, order ≤ j → j < k + 1 → ∀ a, ¬ QCan T a j) := Lib.hid fun j h1 h2 => by
          by_cases e : j = k
          · rw [e]; exact hno
          · exact HN.out j h1 (by omega)
        rw [hne] at gl
        simp only [List.length_nil] at gl
        clear hne hls gel hcan hlen hno hfl
        go_wp2_with (fail)
        go_roundw
        case rel => exact ⟨k + 1, by omega, by omega, by go_num, HN', S1⟩
        case measure => simp [intOf]; omega
      · obtain ⟨gb, hA, hcell⟩ := gel.resolve_left hne
        have hlp : 0 < (F k).length := List.length_pos_iff.2 hne
        have q0 := hcell 0 hlp
        obtain ⟨a, ha, hc⟩ := ((hcan k (by omega)).2 _).1 (List.getElem_mem hlp)
        have hmin : ∀ b, QCan T b k → a ≤ b := fun b hcb => by
          have hm := ((hcan k (by omega)).2 _).2 ⟨b, rfl, hcb⟩
          obtain ⟨j, hj, hje⟩ := List.getElem_of_mem hm
          have hle : (F k)[0] ≤ (F k)[j] := by
            rcases Nat.eq_zero_or_pos j with h0 | h0
            · subst h0; exact Int.le_refl _
            · exact Int.le_of_lt (List.pairwise_iff_getElem.1 (hcan k (by omega)).1 0 j hlp hj h0)
          rw [ha, hje] at hle
          have h2 : a * 2 ^ k ≤ b * 2 ^ k := by omega
          exact Nat.le_of_mul_le_mul_right h2 (Nat.two_pow_pos k)
        rw [hA] at gl
        obtain ⟨f, hf⟩ : ∃ f : Nat, f = a * 2 ^ k := ⟨_, rfl⟩
        rw [ha, ← hf] at q0
        have hlp' : (0 : Int) < (F k).length := by omega
        have x1 := S1.inv
        have xc0 := x1.c0
        have xc1 := x1.c1
        have xf0 := x1.f0
        have xf1 := x1.f1
        have HF := Lib.hid hf
        have HMIN := Lib.hid hmin
        have HC := Lib.hid hc
        have hdl : decide (0 < (F k).length) = true := by simp; omega
        have HSX : Hid (∀ (w' : World), Touch (· = xb) wr w' → XIn w' xb f k → Sat g w' (xP xb f k * (midP pb pm T H * R))) := Lib.hid fun w' t i => S1.x_set t i
        have HX1 := Lib.hid x1
        clear hf hmin hc ha hne hls gel hcan hlen hcell hA x1
        have hTf : T f := by rw [HF.out]; exact HC.out.1 _ (in_block a k)
        go_wp2_with (fail)
        have S2 := HSX.out (wr.setCell ⟨xb, 0, none⟩ (.int .i64 f) |>.setCell ⟨xb, 1, none⟩ (.int .i64 k)) ((x_touch xb 0 _).trans (x_touch xb 1 _)) ((HX1.out.set0 f).set1 k)
        obtain ⟨w2, hw2⟩ : ∃ w2, w2 = (wr.setCell ⟨xb, 0, none⟩ (.int .i64 f) |>.setCell ⟨xb, 1, none⟩ (.int .i64 k)) := ⟨_, rfl⟩
        rw [← hw2] at S2 ⊢
        clear hw2 HSX HX1 xc0 xc1 xf0 xf1 S1 gl q0 g0 g10 hmap
        refine (s_btake pb pm T H a k (f : Int) g w2 _ S2.swap (by rw [HF.out]) hk8 HC.out).mono ?_
        rintro e w3 ⟨rfl, S3⟩
        have S4 := S3.swap
        clear S2 S3
        go_wp2_with (fail)
        go_loopw [] (fun wr => ∃ j c : Nat, order ≤ j ∧ j ≤ 8 ∧ Hid (f = c * 2 ^ j) ∧ Hid (QFull T c j) ∧ Sat g wr (xP xb f j * (midP pb pm (minusQ T c j) H * R))) (fun wr => (intOf ((wr.cell? ⟨xb, 1, none⟩).getD undef)).toNat)
        case atStart => exact ⟨k, a, by omega, by omega, Lib.hid HF.out, Lib.hid HC.out.1, S4⟩
        case round =>
          obtain ⟨j, c, hj1, hj2, HFJ, HQJ, S5⟩ := hrel
          clear S4
          have xc0 := S5.inv.c0
          have xc1 := S5.inv.c1
          have xf1 := S5.inv.f1
          by_cases hlt : order < j
          · have hdo : decide (order < j) = true := by simp; omega
            obtain ⟨i, rfl⟩ : ∃ i, j = i + 1 := ⟨j - 1, by omega⟩
            have hcast : ((i + 1 : Nat) : Int) = (i : Int) + 1 := by push_cast; rfl
            have HM0 : Hid ((intOf ((wr.cell? ⟨xb, 1, none⟩).getD undef)).toNat = i + 1) := Lib.hid (by rw [xc1]; simp [intOf])
            rw [hcast] at xc1
            have hwi : IntKind.i64.wrap ((i : Int) + 1 - 1) = (i : Int) := by rw [Int.add_sub_cancel]; exact IntWalk.i64_in _ ⟨by omega, by omega⟩
            have hgt : decide ((order : Int) < (i : Int) + 1) = true := by simp; omega
            obtain ⟨Q, hQ⟩ : ∃ Q : Nat, 2 ^ i = Q := ⟨_, rfl⟩
            have hQz : (2 : Int) ^ i = (Q : Int) := by rw [← hQ]; push_cast; rfl
            have hfc : f = 2 * c * Q := by rw [HFJ.out, ← hQ, Nat.pow_succ, Nat.mul_comm 2 c, Nat.mul_assoc, Nat.mul_comm (2 ^ i) 2]
            have hsm : (c + 1) * (2 * Q) ≤ 256 := by
              have h1 := full_small HSM.out HQJ.out
              rw [Nat.pow_succ, hQ, Nat.mul_comm Q 2] at h1
              exact h1
            have hsm2 : (2 * c + 1 + 1) * Q ≤ 256 := by
              have e : (2 * c + 1 + 1) * Q = (c + 1) * (2 * Q) := by rw [show 2 * c + 1 + 1 = (c + 1) * 2 by omega, Nat.mul_assoc]
              omega
            have hfq : (2 * c + 1) * Q = f + Q := by rw [Nat.add_mul, ← hfc, Nat.one_mul]
            have hQ1 : 1 ≤ Q := by rw [← hQ]; exact Nat.two_pow_pos i
            have hfQ : f + Q ≤ 256 := by
              have : (2 * c + 1 + 1) * Q = f + Q + Q := by rw [Nat.add_mul, hfq, Nat.one_mul]
              omega
            have HP1 : Hid (plusQ (minusQ T c (i + 1)) (2 * c + 1) i = minusQ T (2 * c) i) := Lib.hid (split_eq HQJ.out)
            have HQ1 : Hid (QFull T (2 * c) i) := Lib.hid (split_full HQJ.out)
            have S6 := S5.x_set (w' := wr.setCell ⟨xb, 1, none⟩ (.int .i64 i)) (x_touch xb 1 _) (S5.inv.set1 i)
            have HPUT : Hid (∀ w', Sat g w' (xP xb f i * (midP pb pm (minusQ T c (i + 1)) H * R)) → Calls Try.prog 63 #[.pointer (some ⟨pb, 0, none⟩), .agg #[.int .i64 ((f : Int) + (Q : Int)), .int .i64 i]] w' fun e w' => e = .returned (.tuple #[]) ∧ Sat g w' (xP xb f i * (midP pb pm (minusQ T (2 * c) i) H * R))) := Lib.hid fun w' h' => by
              have h1 := s_bput pb pm (minusQ T c (i + 1)) H (2 * c + 1) i ((f : Int) + (Q : Int)) g w' (xP xb f i * R) h'.swap (by rw [hQ]; omega) (by omega) (by rw [hQ]; exact hsm2) split_dis (fun _ => split_bud)
              rw [HP1.out] at h1
              exact h1.mono fun e w' ⟨h1, h2⟩ => ⟨h1, h2.swap⟩
            have HQE := Lib.hid hQ
            have HFC := Lib.hid hfc
            have hwf : IntKind.i64.wrap ((f : Int) + (Q : Int)) = (f : Int) + (Q : Int) := IntWalk.i64_in _ ⟨by omega, by omega⟩
            have hwq : IntKind.i64.wrap (Q : Int) = (Q : Int) := IntWalk.i64_in _ ⟨by omega, by omega⟩
            have i0 : (0 : Int) ≤ (i : Int) := by omega
            have i64 : (i : Int) ≤ 64 := by omega
            clear hcast hQ hfc hsm hsm2 hfq hfQ HP1
            go_wp2_with (fail)
            obtain ⟨w5, hw5⟩ : ∃ w5, w5 = wr.setCell ⟨xb, 1, none⟩ (.int .i64 i) := ⟨_, rfl⟩
            rw [← hw5] at S6 ⊢
            clear hw5 S5 xc0 xc1 xf1
            have q0 : ∀ p : Wc (fun w' => w5.drew = w'), p.w.cell? ⟨xb, 0, none⟩ = some (.int .i64 f) := fun p => by rw [← p.h]; exact S6.drew.inv.c0
            have q1 : ∀ p : Wc (fun w' => w5.drew = w'), p.w.cell? ⟨xb, 1, none⟩ = some (.int .i64 i) := fun p => by rw [← p.h]; exact S6.drew.inv.c1
            refine region_tail (fun w' => w5.drew = w') 10 (by kernel_rfl) (by kernel_rfl) rfl ?_
            intro _
            simp only [List.take_succ_cons, List.take_zero, List.drop_succ_cons, List.drop_zero]
            (repeat (first | go_big_quiet_step (fail) | quiet_step (fail)))
            refine wpQuiet_nil ?_
            rintro _ rfl
            clear q0 q1
            go_wp2_with (fail)
            refine (HPUT.out _ S6.drew).mono ?_
            rintro e w7 ⟨rfl, S7⟩
            have z0 := S7.inv.c1
            go_wp2_with (fail)
            go_roundw
            case rel => first | exact ⟨i, 2 * c, by omega, by omega, Lib.hid (by rw [HFC.out, HQE.out]), HQ1, S7⟩ | ((repeat apply Exists.intro); exact ⟨⟨i, 2 * c, by omega, by omega, Lib.hid (by rw [HFC.out, HQE.out]), HQ1, S7⟩, rfl⟩)
            case measure => rw [HM0.out, z0]; simp [intOf]
          · obtain rfl : j = order := by omega
            have hgt : decide ((j : Int) < (j : Int)) = false := by simp
            have hc' : f / 2 ^ j = c := by rw [HFJ.out]; exact in_block c j
            have S8 := S5.drew
            have q0 : ∀ p : Wc (fun w' => wr.drew = w'), p.w.cell? ⟨xb, 0, none⟩ = some (.int .i64 f) := fun p => by rw [← p.h]; exact S8.inv.c0
            have q1 : ∀ p : Wc (fun w' => wr.drew = w'), p.w.cell? ⟨xb, 1, none⟩ = some (.int .i64 j) := fun p => by rw [← p.h]; exact S8.inv.c1
            obtain ⟨hb, _, _, _, _, _, _, g10, _, _⟩ := S8.swap.mid_read
            have q2 : ∀ p : Wc (fun w' => wr.drew = w'), p.w.cell? ⟨pb, 10, none⟩ = some (.map (some hb)) := fun p => by rw [← p.h]; exact g10
            have HC' := Lib.hid hc'
            have hnin : ((f : Int), (j : Int)) ∉ H := hH f hTf j
            clear hc'
            go_wp2_with (fail)
            refine region_tail (fun w' => wr.drew = w') 5 (by kernel_rfl) (by kernel_rfl) rfl ?_
            intro _
            simp only [List.take_succ_cons, List.take_zero, List.drop_succ_cons, List.drop_zero]
            (repeat (first | go_big_quiet_step (fail) | quiet_step (fail)))
            refine wpQuiet_nil ?_
            rintro _ rfl
            clear q0 q1 q2
            refine list_lay S8.swap (by rfl) _ _ _ (by rfl) hb g10 (by rfl) ((f : Int), (j : Int)) (by rfl) (by rfl) hnin fun w9 S9 _ => ?_
            have x0 := S9.swap.inv.c0
            go_wp2_with (fail)
            try rw [Exit.noGoto_ret]
            go_ret2
            exact .yes a k f (by omega) hk8 HC.out HN.out HMIN.out HF.out rfl (by rw [HC'.out]; exact S9.swap.right)

end Go.Proofs.Yteehghjdifbjbaa

namespace Go.Proofs.Yteehghjdifbjbaa
set_option linter.unusedSimpArgs false
set_option linter.unusedVariables false
set_option maxRecDepth 100000
open Go.RowKit
set_option maxHeartbeats 4000000

/-- The words with m frames from f on made noughts. -/
def scrubW (W : Nat → Int) (f m : Nat) : Nat → Int := fun i => if 16 * f ≤ i ∧ i < 16 * (f + m) then 0 else W i
theorem scrubW_zero (W : Nat → Int) (f : Nat) : scrubW W f 0 = W := by funext i; unfold scrubW; rw [if_neg (by omega)]
theorem scrubW_step (W : Nat → Int) (f m : Nat) : scrubW (scrubW W f m) (f + m) 1 = scrubW W f (m + 1) := by
  funext i
  unfold scrubW
  by_cases h1 : 16 * (f + m) ≤ i ∧ i < 16 * (f + m + 1)
  · rw [if_pos h1, if_pos (by omega)]
  · rw [if_neg h1]
    by_cases h2 : 16 * f ≤ i ∧ i < 16 * (f + m)
    · rw [if_pos h2, if_pos (by omega)]
    · rw [if_neg h2, if_neg (by omega)]

theorem heapCells (b : Nat) : ∀ (vs : List Value) (o : Nat) (w : World) (k : Nat), k ≠ b → (w.setCells b o vs).heap[k]? = w.heap[k]?
  | [], _, _, _, _ => rfl
  | v :: r, o, w, k, h => by rw [World.setCells, heapCells b r _ _ k h]; exact Below.heap_setCell _ _ _ _ h
theorem touchCells (b : Nat) : ∀ (vs : List Value) (o : Nat) (w : World), Touch (· = b) w (w.setCells b o vs)
  | [], _, w => Touch.refl _ w
  | v :: r, o, w => (Touch.setCell (S := (· = b)) (Touch.refl _ w) (p := ⟨b, o, none⟩) (Or.inl rfl) v).trans (touchCells b r (o + 1) _)
theorem MemIn.zero16 {w : World} {pm bk n : Nat} {W : Nat → Int} (hm : MemIn w pm bk n W) (k : Nat) (hk : k < n) :
    MemIn (w.setCells bk (16 * k) (List.replicate 16 (.int .u64 0))) pm bk n (scrubW W k 1) := by
  have ht := touchCells bk (List.replicate 16 (.int .u64 0)) (16 * k) w
  refine ⟨?_, ?_, ?_, ?_, ?_, ?_, ?_, hm.ne, hm.n1, hm.n2⟩
  · rw [cell_of_heap (ht.block pm hm.pm_lt hm.ne)]; exact hm.ptr
  · intro i hi
    unfold scrubW
    by_cases h : 16 * k ≤ i ∧ i < 16 * (k + 1)
    · rw [if_pos h]
      obtain ⟨j, rfl⟩ : ∃ j, i = 16 * k + j := ⟨i - 16 * k, by omega⟩
      rw [World.cell?_setCells_in bk _ _ _ (fun j hj => by rw [hm.cell _ (by simp at hj; omega)]; rfl) j (by simp; omega)]
      rw [List.getElem_replicate]
    · rw [if_neg h, World.cell?_setCells_out bk _ _ _ _ (fun _ _ => by simp; omega)]
      exact hm.cell i hi
  · intro i hi; rw [World.frozen?_setCells]; exact hm.free i hi
  · intro i; unfold scrubW; split; exact Int.le_refl _; exact hm.lo i
  · intro i; unfold scrubW; split; decide; exact hm.hi i
  · exact Nat.lt_of_lt_of_le hm.pm_lt ht.size
  · exact Nat.lt_of_lt_of_le hm.bk_lt ht.size

theorem list_copy_cells {P : Program} {w : World} {ops : Array Oper} {rest : List Oper} {o : Oper} {a : Act} {Q : Exit → Act → World → Prop} (hgd : o.guard = none) (d s : Operand) (dT sT : TypeId)
    (ho : o.op = .call { callee := .builtin .copy, args := #[d, s], argTypes := #[dT, sT] }) (elem : TypeId) (hu : P.underlying dT = some (.slice elem)) (hsz : (P.info? elem).map (·.size) = some 1)
    (b off dLen dCap : Nat) (ad : Addr) (sLen sCap : Nat) (hd : a.eval d = .slice (some ⟨b, off, none⟩) dLen dCap) (hs : a.eval s = .slice (some ad) sLen sCap)
    (cs : List Value) (hn : cs.length = Nat.min sLen dLen) (hsrc : ∀ j v, cs[j]? = some v → w.cell? (ad.add j) = some v)
    (hc : ∀ j, j < cs.length → (w.cell? ⟨b, off + j, none⟩).isSome = true) (hf : ∀ j, j < cs.length → w.frozen? ⟨b, off + j, none⟩ = false) (h1 : ∀ v ∈ cs, v.oneCell' = true)
    (h : wpList P ops Q rest (a.put o.dst (goInt cs.length)) (w.setCells b off cs)) : wpList P ops Q (o :: rest) a w := by
  refine wpList_plain hgd fun K hK => ?_
  have hrun := run_copy_cells (P := P) w dT sT o.type elem b off dLen dCap ad sLen sCap cs hu hsz hn hsrc hc hf h1
  unfold Oper.wp
  simp [execOp, ho, resolve, invoke, builtin, hd, hs, hrun, Result.andThen]
  exact hK _ _ h

theorem has_yes (pm bk n : Nat) (W : Nat → Int) (f m : Int) (w : World) (hm : MemIn w pm bk n W) (h1 : 1 ≤ m) (h2 : m ≤ n) (h3 : 0 ≤ f) (h4 : f ≤ n - m) :
    Calls Try.prog 71 #[.pointer (some ⟨pm, 0, none⟩), .int .i64 f, .int .i64 m] w fun e w' => e = .returned (.bool true) ∧ w = w' := by
  have hp := hm.ptr
  have hn := hm.n2
  have d1 : decide (1 ≤ m) = true := by simp; omega
  have d2 : decide (m ≤ n) = true := by simp; omega
  have d3 : decide (0 ≤ f) = true := by simp; omega
  have d4 : decide (f ≤ n - m) = true := by simp; omega
  have hw : IntKind.i64.wrap ((n : Int) - m) = (n : Int) - m := IntWalk.i64_in _ ⟨by omega, by omega⟩
  clear hm
  go_enter Try.func71, Try.ntmps71
  go_wp2_with (fail)
  go_ret
  exact ⟨rfl, rfl⟩
theorem has_no (pm bk n : Nat) (W : Nat → Int) (f m : Int) (w : World) (hm : MemIn w pm bk n W) (h : ¬ (1 ≤ m ∧ m ≤ n ∧ 0 ≤ f ∧ f ≤ n - m)) :
    Calls Try.prog 71 #[.pointer (some ⟨pm, 0, none⟩), .int .i64 f, .int .i64 m] w fun e w' => e = .returned (.bool false) ∧ w = w' := by
  have hp := hm.ptr
  have hn := hm.n2
  clear hm
  have hh : m < 1 ∨ (1 ≤ m ∧ (n : Int) < m) ∨ (1 ≤ m ∧ m ≤ n ∧ f < 0) ∨ (1 ≤ m ∧ m ≤ n ∧ 0 ≤ f ∧ n - m < f) := by omega
  clear h
  rcases hh with h1 | ⟨h1, h2⟩ | ⟨h1, h2, h3⟩ | ⟨h1, h2, h3, h4⟩
  · go_enter Try.func71, Try.ntmps71
    go_wp2_with (fail)
    go_ret
    exact ⟨rfl, rfl⟩
  · go_enter Try.func71, Try.ntmps71
    go_wp2_with (fail)
    go_ret
    exact ⟨rfl, rfl⟩
  · go_enter Try.func71, Try.ntmps71
    go_wp2_with (fail)
    go_ret
    exact ⟨rfl, rfl⟩
  · have hw : IntKind.i64.wrap ((n : Int) - m) = (n : Int) - m := IntWalk.i64_in _ ⟨by omega, by omega⟩
    have d4 : decide (f ≤ n - m) = false := by simp; omega
    go_enter Try.func71, Try.ntmps71
    go_wp2_with (fail)
    go_ret
    exact ⟨rfl, rfl⟩

theorem scrub_no (pm bk n : Nat) (W : Nat → Int) (f m : Int) (w : World) (hm : MemIn w pm bk n W) (h : ¬ (1 ≤ m ∧ m ≤ n ∧ 0 ≤ f ∧ f ≤ n - m)) :
    Calls Try.prog 88 #[.pointer (some ⟨pm, 0, none⟩), .int .i64 f, .int .i64 m] w fun e w' => e = .returned (.int .i64 1) ∧ w = w' := by
  have H := has_no pm bk n W f m w hm h
  go_enter Try.func88, Try.ntmps88
  go_wp2_with (fail)
  refine H.mono ?_
  rintro e w' ⟨rfl, rfl⟩
  go_wp2_with (fail)
  go_ret
  exact ⟨rfl, rfl⟩

theorem scrub_yes (pm bk n : Nat) (W : Nat → Int) (f m : Nat) (w : World) (hm : MemIn w pm bk n W) (h1 : 1 ≤ m) (h2 : f + m ≤ n) :
    Calls Try.prog 88 #[.pointer (some ⟨pm, 0, none⟩), .int .i64 f, .int .i64 m] w fun e w' => e = .returned (.int .i64 0) ∧ MemIn w' pm bk n (scrubW W f m) ∧ Touch (· = bk) w w' := by
  have H := Lib.hid (has_yes pm bk n W f m w hm (by omega) (by omega) (by omega) (by omega))
  have hn := hm.n2
  go_enter Try.func88, Try.ntmps88
  go_wp2_with (fail)
  refine H.out.mono ?_
  rintro e w' ⟨rfl, rfl⟩
  go_wp2_with (fail)
  obtain ⟨nb, hnb⟩ : ∃ nb, nb = w.heap.size := ⟨_, rfl⟩
  have hsl := hm.bk_lt
  have hz : ∀ j, j < 16 → (w.alloc (.cells #[.int .u64 0, .int .u64 0, .int .u64 0, .int .u64 0, .int .u64 0, .int .u64 0, .int .u64 0, .int .u64 0, .int .u64 0, .int .u64 0, .int .u64 0, .int .u64 0, .int .u64 0, .int .u64 0, .int .u64 0, .int .u64 0] 80)).cell? ⟨nb, j, none⟩ = some (.int .u64 0) := fun j hj => by
    rw [hnb, World.cell?_alloc_at _ _ _ _ rfl]
    have : j = 0 ∨ j = 1 ∨ j = 2 ∨ j = 3 ∨ j = 4 ∨ j = 5 ∨ j = 6 ∨ j = 7 ∨ j = 8 ∨ j = 9 ∨ j = 10 ∨ j = 11 ∨ j = 12 ∨ j = 13 ∨ j = 14 ∨ j = 15 := by omega
    rcases this with rfl | rfl | rfl | rfl | rfl | rfl | rfl | rfl | rfl | rfl | rfl | rfl | rfl | rfl | rfl | rfl <;> rfl
  have hb0 : Below w.heap.size w (w.alloc (.cells #[.int .u64 0, .int .u64 0, .int .u64 0, .int .u64 0, .int .u64 0, .int .u64 0, .int .u64 0, .int .u64 0, .int .u64 0, .int .u64 0, .int .u64 0, .int .u64 0, .int .u64 0, .int .u64 0, .int .u64 0, .int .u64 0] 80)) := (Below.refl _ _).alloc (Nat.le_refl _) _
  obtain ⟨w1, hw1⟩ : ∃ w1, w1 = w.alloc (.cells #[.int .u64 0, .int .u64 0, .int .u64 0, .int .u64 0, .int .u64 0, .int .u64 0, .int .u64 0, .int .u64 0, .int .u64 0, .int .u64 0, .int .u64 0, .int .u64 0, .int .u64 0, .int .u64 0, .int .u64 0, .int .u64 0] 80) := ⟨_, rfl⟩
  have hs1 : nb < w1.heap.size := by rw [hw1, hnb]; simp
  rw [← hw1] at hz hb0
  rw [← hnb, ← hw1]
  have hne : nb ≠ bk := by omega
  clear hw1 hnb
  go_loopw [15] (fun i wr => ∃ k : Nat, k ≤ m ∧ i = .int .i64 k ∧ MemIn wr pm bk n (scrubW W f k) ∧ Touch (· = bk) w1 wr) (fun i _ => m - (intOf i).toNat)
  case atStart => exact ⟨0, by omega, rfl, by rw [scrubW_zero]; exact hm.below hb0, Touch.refl _ _⟩
  case round =>
    obtain ⟨k, hk, rfl, hmk, htk⟩ := hrel
    by_cases hkm : k < m
    · have hd : decide ((k : Int) < m) = true := by simp; omega
      have hm2 : MemIn wr.drew pm bk n (scrubW W f k) := hmk.below ((Below.refl _ _).drew)
      have ht2 : Touch (· = bk) w1 wr.drew := htk.trans (Touch.of_below ((Below.refl _ _).drew))
      have q0 : ∀ p : Wc (fun w' => wr.drew = w'), p.w.cell? ⟨pm, 0, none⟩ = some (.slice (some ⟨bk, 0, none⟩) n n) := fun p => by rw [← p.h]; exact hm2.ptr
      have hzz : ∀ j, j < 16 → wr.drew.cell? ⟨nb, j, none⟩ = some (.int .u64 0) := fun j hj => by rw [cell_of_heap (ht2.block nb hs1 hne)]; exact hz j hj
      have hwa : IntKind.i64.wrap ((f : Int) + (k : Int)) = ((f + k : Nat) : Int) := by push_cast; exact IntWalk.i64_in _ ⟨by omega, by omega⟩
      have hlt : ((f + k : Nat) : Int) < (n : Int) := by omega
      have HZ := Lib.hid hz
      have HM2 := Lib.hid hm2
      have HZZ := Lib.hid hzz
      clear hm2 hmk hz hzz htk
      go_wp2_with (fail)
      refine region_tail (fun w' => wr.drew = w') 10 (by kernel_rfl) (by kernel_rfl) rfl ?_
      intro _
      simp only [List.take_succ_cons, List.take_zero, List.drop_succ_cons, List.drop_zero]
      (repeat (first | go_big_quiet_step (fail) | quiet_step (fail)))
      refine wpQuiet_nil ?_
      rintro _ rfl
      clear q0
      have hz16 := HM2.out.zero16 (f + k) (by omega)
      have hcc : ∀ j, j < (List.replicate 16 (Value.int .u64 0)).length → wr.drew.cell? ⟨bk, (f + k) * 16 + j, none⟩ = some (.int .u64 (scrubW W f k ((f + k) * 16 + j))) := fun j hj => HM2.out.cell _ (by simp at hj; omega)
      refine list_copy_cells (by rfl) _ _ _ _ (by rfl) 49 (by rfl) (by kernel_rfl) bk ((f + k) * 16) 16 16 ⟨nb, 0, none⟩ 16 16 (by rfl) (by rfl) (List.replicate 16 (.int .u64 0)) (by rfl)
        (fun j v hv => by
          obtain ⟨hj, rfl⟩ := List.getElem?_eq_some_iff.1 hv
          rw [List.getElem_replicate]
          have := HZZ.out j (by simpa using hj)
          have hadd : (⟨nb, 0, none⟩ : Addr).add j = ⟨nb, j, none⟩ := by unfold Addr.add; split <;> simp_all
          rw [hadd]; exact this)
        (fun j hj => by rw [hcc j hj]; rfl) (fun j hj => HM2.out.free _ (by simp at hj; omega)) (fun v hv => by rw [List.eq_of_mem_replicate hv]; rfl) ?_
      rw [show 16 * (f + k) = (f + k) * 16 by omega, scrubW_step] at hz16
      have ht3 := ht2.trans (touchCells bk (List.replicate 16 (.int .u64 0)) ((f + k) * 16) wr.drew)
      obtain ⟨w5, hw5⟩ : ∃ w5, w5 = wr.drew.setCells bk ((f + k) * 16) (List.replicate 16 (.int .u64 0)) := ⟨_, rfl⟩
      rw [← hw5] at hz16 ht3 ⊢
      clear hw5 hcc
      have hz := HZ.out
      go_wp2_with (fail)
      go_roundw
      case rel => exact ⟨k + 1, by omega, by go_num, hz16, ht3⟩
      case measure => simp [intOf]; omega
    · obtain rfl : k = m := by omega
      go_wp2_with (fail)
      go_ret
      exact ⟨rfl, hmk, (Touch.of_below hb0).trans htk⟩

theorem eq16 (w : World) : (Op.equalIn 10000 80 (.agg #[.int .u64 0, .int .u64 0, .int .u64 0, .int .u64 0, .int .u64 0, .int .u64 0, .int .u64 0, .int .u64 0, .int .u64 0, .int .u64 0, .int .u64 0, .int .u64 0, .int .u64 0, .int .u64 0, .int .u64 0, .int .u64 0]) (.agg #[.int .u64 0, .int .u64 0, .int .u64 0, .int .u64 0, .int .u64 0, .int .u64 0, .int .u64 0, .int .u64 0, .int .u64 0, .int .u64 0, .int .u64 0, .int .u64 0, .int .u64 0, .int .u64 0, .int .u64 0, .int .u64 0])).run Try.prog w = .ok true w := by
  have u3 := Try.underlying49
  have a3 := Try.isAgg49
  have z3 := Try.sizeOf49
  rw [show (10000 : Nat) = 9999 + 1 from rfl, Op.equalIn]
  simp only [Sem.run_bind, run_underlying Try.underlying80, Result.andThen_ok]
  simp only [Std.Legacy.Range.forIn_eq_forIn_range', Std.Legacy.Range.size, Nat.sub_zero, Nat.add_sub_cancel, Nat.div_one, List.range'_succ, List.range'_zero, List.forIn_cons, List.forIn_nil]
  go_simp
theorem zero_yes (pm bk n : Nat) (W : Nat → Int) (f : Nat) (w : World) (hm : MemIn w pm bk n W) (hf : f < n) (h0 : ∀ i, 16 * f ≤ i → i < 16 * (f + 1) → W i = 0) :
    Calls Try.prog 37 #[.pointer (some ⟨pm, 0, none⟩), .int .i64 f] w fun e w' => e = .returned (.bool true) ∧ w = w' := by
  have H := Lib.hid (has_yes pm bk n W f 1 w hm (by omega) (by omega) (by omega) (by omega))
  have hn := hm.n2
  have hp := hm.ptr
  have hff : (f : Int) < (n : Int) := by omega
  have hc : ∀ j, j < 16 → w.cell? ⟨bk, f * 16 + j, none⟩ = some (.int .u64 0) := fun j hj => by rw [hm.cell _ (by omega), h0 _ (by omega) (by omega)]
  have c0 : w.cell? ⟨bk, f * 16, none⟩ = some (.int .u64 0) := hc 0 (by omega)
  have h16 := eq16
  have c1 := hc 1 (by omega); have c2 := hc 2 (by omega); have c3 := hc 3 (by omega)
  have c4 := hc 4 (by omega); have c5 := hc 5 (by omega); have c6 := hc 6 (by omega); have c7 := hc 7 (by omega)
  have c8 := hc 8 (by omega); have c9 := hc 9 (by omega); have c10 := hc 10 (by omega); have c11 := hc 11 (by omega)
  have c12 := hc 12 (by omega); have c13 := hc 13 (by omega); have c14 := hc 14 (by omega); have c15 := hc 15 (by omega)
  clear hc h0 hm
  go_enter Try.func37, Try.ntmps37
  go_wp2_with (fail)
  refine H.out.mono ?_
  rintro e w' ⟨rfl, rfl⟩
  go_wp2_with (fail)
  go_ret
  exact ⟨rfl, rfl⟩

end Go.Proofs.Yteehghjdifbjbaa
