/- take of a block of package buddy. -/
import Derived.Test.YtoiiblajgkdabaaBud
namespace Go.Proofs.Ytoiiblajgkdabaa
set_option linter.unusedSimpArgs false
set_option linter.unusedVariables false
set_option maxRecDepth 100000
open Go.RowKit
set_option maxHeartbeats 4000000

theorem take_no (pb pm hb : Nat) (V : Nat → Value) (F : Nat → List Int) (H : List Blk) (f : Int) (o : Nat) (w : World) (h : BudIn w pb pm hb V F H) (ho : o < 9) (hs : (F o).Pairwise (· < ·)) (hl : (F o).length ≤ 1000000) (hf : f ∉ F o) :
    Calls Try.prog 48 #[.pointer (some ⟨pb, 0, none⟩), .agg #[.int .i64 f, .int .i64 o]] w fun e w' => e = .returned (.bool false) ∧ Below w.heap.size w w' := by
  obtain ⟨w1, hw1⟩ : ∃ w1, w1 = w.alloc (.cells #[.int .i64 f, .int .i64 o] 39) := ⟨_, rfl⟩
  have hb1 : Below w.heap.size w w1 := by rw [hw1]; repeat (first | with_reducible exact Below.refl _ _ | with_reducible assumption | with_reducible refine below_drewN ?_ _ | with_reducible refine Below.alloc ?_ (by simp <;> omega) _)
  have h1 := h.below hb1
  have d0 : w1.cell? ⟨w.heap.size, 0, none⟩ = some (.int .i64 f) := by rw [hw1]; simp [go_sem]
  have d1 : w1.cell? ⟨w.heap.size, 1, none⟩ = some (.int .i64 o) := by rw [hw1]; simp [go_sem]
  have hsz : w.heap.size < w1.heap.size := by rw [hw1]; simp
  obtain ⟨a, cap, hv⟩ := own_slice (h1.rows o ho)
  have gl := h1.cl o ho
  rw [hv] at gl
  have o0 : (0 : Int) ≤ (o : Int) := by omega
  have o9 : (o : Int) < 9 := by omega
  have hrow := h1.rows o ho
  rw [hv] at hrow
  have HV := Lib.hid hv
  have hown : ∀ k, (V o).ownBlock = some k → k < w.heap.size := fun k hk => h.slt k (Or.inr (Or.inr ⟨o, ho, hk⟩))
  have HO := Lib.hid hown
  have hnpb : w.heap.size ≠ pb := by have := h.lt; omega
  have hfz := h1.free (1 + o) (by omega)
  have hsr : (F o).Pairwise (· ≤ ·) := hs.imp (fun h => Int.le_of_lt h)
  obtain ⟨i, hi⟩ : ∃ i, (F o).countP (· < f) = i := ⟨_, rfl⟩
  have hil : i ≤ (F o).length := by rw [← hi]; exact List.countP_le_length
  have hadd : addL (F o) f = insL (F o) i f := by unfold addL; rw [hi]
  have hsea : ∀ w', w'.heap = w1.heap → Calls Try.prog 75 #[.slice a (F o).length cap, .int .i64 f] w' fun e w'' => e = .returned (.tuple #[.int .i64 i, .bool false]) ∧ ∃ q, w'' = w'.drewN q := fun w' hw => by
    have := search_any (.slice a (F o).length cap) (F o) f w' (own_heap' hrow (fun g _ => by rw [hw])) hsr hl
    rwa [hi, show (F o).contains f = false by simpa using hf] at this
  have HSEA := Lib.hid hsea
  have HADD := Lib.hid hadd
  have HROW := Lib.hid hrow
  clear hs hsr hi hadd hsea hrow hv hown hf
  have c1 : ∀ p : Wc (fun w' => w1.drew = w'), p.w.cell? ⟨w.heap.size, 1, none⟩ = some (.int .i64 o) := fun p => by rw [← p.h]; exact d1
  have c2 : ∀ p : Wc (fun w' => w1.drew = w'), p.w.cell? ⟨pb, 1 + o, none⟩ = some (.slice a (F o).length cap) := fun p => by rw [← p.h]; exact gl
  go_enter Try.func48, Try.ntmps48
  go_wp2_with (fail)
  rw [← hw1]
  clear hw1
  (refine region_class (fun w' => w1.drew = w') (by kernel_rfl) (by kernel_rfl) (rfl) ?_; intro _; (repeat (first | go_big_quiet_step (fail) | quiet_step (fail))); refine wpQuiet_nil ?_; intro wz hz)
  obtain rfl := hz
  clear c1 c2
  go_wp2_with (fail)
  refine (HSEA.out w1.drew rfl).mono ?_
  rintro e w' ⟨rfl, q, hw'⟩
  rw [hw']
  clear hw'
  go_wp2_with (fail)
  go_ret
  exact ⟨rfl, by repeat (first | with_reducible exact Below.refl _ _ | with_reducible assumption | with_reducible refine below_drewN ?_ _ | with_reducible refine Below.drew ?_ | with_reducible refine Below.setCell ?_ (by first | omega | (simp <;> omega)) _ | with_reducible refine Below.alloc ?_ (by first | omega | (simp <;> omega)) _)⟩

theorem take_yes (pb pm hb : Nat) (V : Nat → Value) (F : Nat → List Int) (H : List Blk) (f : Int) (o : Nat) (w : World) (h : BudIn w pb pm hb V F H) (ho : o < 9) (hs : (F o).Pairwise (· < ·)) (hl : (F o).length ≤ 1000000) (hf : f ∈ F o) :
    Calls Try.prog 48 #[.pointer (some ⟨pb, 0, none⟩), .agg #[.int .i64 f, .int .i64 o]] w fun e w' => e = .returned (.bool true) ∧ BudPost w pb pm hb V (upd F o (delL (F o) f)) H w' := by
  obtain ⟨w1, hw1⟩ : ∃ w1, w1 = w.alloc (.cells #[.int .i64 f, .int .i64 o] 39) := ⟨_, rfl⟩
  have hb1 : Below w.heap.size w w1 := by rw [hw1]; repeat (first | with_reducible exact Below.refl _ _ | with_reducible assumption | with_reducible refine below_drewN ?_ _ | with_reducible refine Below.alloc ?_ (by simp <;> omega) _)
  have h1 := h.below hb1
  have d0 : w1.cell? ⟨w.heap.size, 0, none⟩ = some (.int .i64 f) := by rw [hw1]; simp [go_sem]
  have d1 : w1.cell? ⟨w.heap.size, 1, none⟩ = some (.int .i64 o) := by rw [hw1]; simp [go_sem]
  have hsz : w.heap.size < w1.heap.size := by rw [hw1]; simp
  obtain ⟨a, cap, hv⟩ := own_slice (h1.rows o ho)
  have gl := h1.cl o ho
  rw [hv] at gl
  have o0 : (0 : Int) ≤ (o : Int) := by omega
  have o9 : (o : Int) < 9 := by omega
  have hrow := h1.rows o ho
  rw [hv] at hrow
  have HV := Lib.hid hv
  have hown : ∀ k, (V o).ownBlock = some k → k < w.heap.size := fun k hk => h.slt k (Or.inr (Or.inr ⟨o, ho, hk⟩))
  have HO := Lib.hid hown
  have hnpb : w.heap.size ≠ pb := by have := h.lt; omega
  have hfz := h1.free (1 + o) (by omega)
  have hsr : (F o).Pairwise (· ≤ ·) := hs.imp (fun h => Int.le_of_lt h)
  obtain ⟨i, hi⟩ : ∃ i, (F o).countP (· < f) = i := ⟨_, rfl⟩
  have hil : i < (F o).length := by rw [← hi]; exact (at_count (F o) f hs hf).1
  have hadd : delL (F o) f = (F o).eraseIdx i := by unfold delL; rw [hi]
  have hil2 : (i : Int) + 1 ≤ 1000000 := by omega
  have hsea : ∀ w', w'.heap = w1.heap → Calls Try.prog 75 #[.slice a (F o).length cap, .int .i64 f] w' fun e w'' => e = .returned (.tuple #[.int .i64 i, .bool true]) ∧ ∃ q, w'' = w'.drewN q := fun w' hw => by
    have := search_any (.slice a (F o).length cap) (F o) f w' (own_heap' hrow (fun g _ => by rw [hw])) hsr hl
    rwa [hi, List.contains_iff_mem.2 hf] at this
  have HSEA := Lib.hid hsea
  have HADD := Lib.hid hadd
  have HROW := Lib.hid hrow
  clear hs hsr hi hadd hsea hrow hv hown hf
  have c1 : ∀ p : Wc (fun w' => w1.drew = w'), p.w.cell? ⟨w.heap.size, 1, none⟩ = some (.int .i64 o) := fun p => by rw [← p.h]; exact d1
  have c2 : ∀ p : Wc (fun w' => w1.drew = w'), p.w.cell? ⟨pb, 1 + o, none⟩ = some (.slice a (F o).length cap) := fun p => by rw [← p.h]; exact gl
  go_enter Try.func48, Try.ntmps48
  go_wp2_with (fail)
  rw [← hw1]
  clear hw1
  (refine region_class (fun w' => w1.drew = w') (by kernel_rfl) (by kernel_rfl) (rfl) ?_; intro _; (repeat (first | go_big_quiet_step (fail) | quiet_step (fail))); refine wpQuiet_nil ?_; intro wz hz)
  obtain rfl := hz
  clear c1 c2
  go_wp2_with (fail)
  refine (HSEA.out w1.drew rfl).mono ?_
  rintro e w' ⟨rfl, q, hw'⟩
  obtain ⟨w2, hw2⟩ : ∃ w2, w2 = w1.drew.drewN q := ⟨_, rfl⟩
  rw [hw', ← hw2]
  have hb2 : Below w1.heap.size w1 w2 := by rw [hw2]; repeat (first | with_reducible exact Below.refl _ _ | with_reducible assumption | with_reducible refine below_drewN ?_ _ | with_reducible refine Below.drew ?_ | with_reducible refine Below.setCell ?_ (by first | omega | (simp <;> omega)) _ | with_reducible refine Below.alloc ?_ (by first | omega | (simp <;> omega)) _)
  clear hw2 hw'
  have hbw2 : Below w.heap.size w w2 := hb1.trans (hb2.mono hb1.size)
  have hz2 := hb2.size
  have HSB : Hid (∀ w', Below w1.heap.size w1 w' → w'.cell? ⟨w.heap.size, 0, none⟩ = some (.int .i64 f) ∧ w'.cell? ⟨w.heap.size, 1, none⟩ = some (.int .i64 o)) := Lib.hid fun w' hb => ⟨keep hb hsz d0, keep hb hsz d1⟩
  have hfar : ∀ (w' : World) (u : Value) (j : Nat), (w'.setCell ⟨pb, 1 + o, none⟩ u).cell? ⟨w.heap.size, j, none⟩ = w'.cell? ⟨w.heap.size, j, none⟩ := fun w' u j => World.cell?_setCell_other w' ⟨pb, 1 + o, none⟩ ⟨w.heap.size, j, none⟩ u (fun e => by simp at e <;> first | exact hnpb e.1 | exact hnpb e.1.symm)
  have HFAR := Lib.hid hfar
  clear hfar d0 d1
  have fin : ∀ (w3 w4 : World) (a4 : Option Addr) (cap4 : Nat), Below w1.heap.size w1 w3 → RowI w4 0 (.slice a4 ((F o).eraseIdx i).length cap4) ((F o).eraseIdx i) → Touch (fun k => Value.ownBlock (.slice a (F o).length cap) = some k) w3 w4 →
      (∀ k, Value.ownBlock (.slice a4 ((F o).eraseIdx i).length cap4) = some k → Value.ownBlock (.slice a (F o).length cap) = some k ∨ w3.heap.size ≤ k) → BudPost w pb pm hb V (upd F o (delL (F o) f)) H (w4.setCell ⟨pb, 1 + o, none⟩ (.slice a4 ((F o).eraseIdx i).length cap4)) := fun w3 w4 a4 cap4 hb3 hr ht hn => by
    rw [HADD.out]
    rw [← HV.out] at ht hn
    exact h.list (hb1.trans (hb3.mono hb1.size)) ho hr ht hn
  have FIN := Lib.hid fin
  clear fin
  have hwi : IntKind.i64.wrap ((i : Int) + 1) = (i : Int) + 1 := IntWalk.i64_in _ ⟨by omega, by omega⟩
  go_wp2_with (fail)
  go_region_held3 (fun w' => w'.cell? ⟨w.heap.size, 0, none⟩ = some (.int .i64 f) ∧ w'.cell? ⟨w.heap.size, 1, none⟩ = some (.int .i64 o)) (first | (refine HSB.out _ ?_; (repeat (first | with_reducible exact Below.refl _ _ | with_reducible assumption | with_reducible refine below_drewN ?_ _ | with_reducible refine Below.drew ?_ | with_reducible refine Below.setCell ?_ (by first | omega | (simp <;> omega)) _ | with_reducible refine Below.alloc ?_ (by first | omega | (simp <;> omega)) _)); done) | exact ⟨d40, d41⟩ | exact ⟨(HFAR.out _ _ _).trans d40, (HFAR.out _ _ _).trans d41⟩)
    ((go_at_call 76
      refine (del_any (.slice a (F o).length cap) (F o) i _ (by exact own_heap' HROW.out (fun g hg => Below.block (B := w1.heap.size) (by repeat (first | with_reducible exact Below.refl _ _ | with_reducible assumption | with_reducible refine below_drewN ?_ _ | with_reducible refine Below.drew ?_ | with_reducible refine Below.setCell ?_ (by first | omega | (simp <;> omega)) _ | with_reducible refine Below.alloc ?_ (by first | omega | (simp <;> omega)) _)) g (World.ownsRow.lt HROW.out g hg).2)) hil hl).mono ?_
      rintro e w4 ⟨a4, cap4, rfl, hr4, ht4, hn4⟩
      have hz4 := ht4.size
      have hnb : ∀ k, k < w1.heap.size → Value.ownBlock (.slice a (F o).length cap) ≠ some k → w4.heap[k]? = w1.heap[k]? := fun k hk hne => (ht4.block k (by simp; omega) hne).trans ((Below.block (B := w1.heap.size) (by repeat (first | with_reducible exact Below.refl _ _ | with_reducible assumption | with_reducible refine below_drewN ?_ _ | with_reducible refine Below.drew ?_ | with_reducible refine Below.setCell ?_ (by first | omega | (simp <;> omega)) _ | with_reducible refine Below.alloc ?_ (by first | omega | (simp <;> omega)) _)) k hk))
      have hno : Value.ownBlock (.slice a (F o).length cap) ≠ some w.heap.size := fun e => by have := HO.out _ (by rw [HV.out]; exact e); omega
      have d40 := (cell_of_heap (hnb _ hsz hno) 0).trans (HSB.out _ (Below.refl _ _)).1
      have d41 := (cell_of_heap (hnb _ hsz hno) 1).trans (HSB.out _ (Below.refl _ _)).2
      have hnp : Value.ownBlock (.slice a (F o).length cap) ≠ some pb := by rw [← HV.out]; exact h1.nepb o ho
      have e4 := (cell_of_heap (hnb _ h1.lt hnp) (1 + o)).trans gl
      have f4 := (frozen_of_heap (hnb _ h1.lt hnp) (1 + o)).trans hfz))
  all_goals
    go_wp2_with (fail)
    go_ret
    exact ⟨rfl, FIN.out _ _ _ _ (by repeat (first | with_reducible exact Below.refl _ _ | with_reducible assumption | with_reducible refine below_drewN ?_ _ | with_reducible refine Below.drew ?_ | with_reducible refine Below.setCell ?_ (by first | omega | (simp <;> omega)) _ | with_reducible refine Below.alloc ?_ (by first | omega | (simp <;> omega)) _)) hr4 ht4 hn4⟩


end Go.Proofs.Ytoiiblajgkdabaa
