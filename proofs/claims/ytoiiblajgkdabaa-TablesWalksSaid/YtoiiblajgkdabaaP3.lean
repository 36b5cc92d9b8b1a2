/- Part 3 of the proofs: Bud2, Sep2, Bud3, BudNew, Mem, Ref02, MemP. -/
import Derived.Test.YtoiiblajgkdabaaP2
import Derived.Test.YtoiiblajgkdabaaP1
namespace Go.Proofs.Ytoiiblajgkdabaa
set_option linter.unusedSimpArgs false
set_option linter.unusedVariables false
set_option maxRecDepth 100000
open Go.RowKit
set_option maxHeartbeats 4000000

theorem take_no (pb pm hb : Nat) (V : Nat → Value) (F : Nat → List Int) (H : List Blk) (f : Int) (o : Nat) (w : World) (h : BudIn w pb pm hb V F H) (ho : o < 9) (hs : (F o).Pairwise (· < ·)) (hl : (F o).length ≤ 1000000) (hf : f ∉ F o) :
    Calls Try.prog 48 #[.pointer (some ⟨pb, 0, none⟩), .agg #[.int .i64 f, .int .i64 o]] w fun e w' => e = .returned (.bool false) ∧ Below w.heap.size w w' := by
  obtain ⟨w1, hw1⟩ : ∃ w1, w1 = w.alloc (.cells #[.int .i64 f, .int .i64 o] 39) := ⟨_, rfl⟩
  have hb1 : Below w.heap.size w w1 := by rw [hw1]; repeat (first | with_reducible exact Below.refl _ _ | with_reducible assumption | with_reducible refine below_drewN ?_ _ | with_reducible refine Below.alloc ?_ (by simp <;> omega) _)
  have h1 := h.below hb1
  have d0 : w1.cell? ⟨w.heap.size, 0, none⟩ = some (.int .i64 f) := by rw [hw1]; simp [go_sem]
  have d1 : w1.cell? ⟨w.heap.size, 1, none⟩ = some (.int .i64 o) := by rw [hw1]; simp [go_sem]
  have hsz : w.heap.size < w1.heap.size := by rw [hw1]; simp
  obtain ⟨a, cap, hv⟩ := own_slice (h1.rows o ho)
  have gl := h1.cl o ho
  rw [hv] at gl
  have o0 : (0 : Int) ≤ (o : Int) := by omega
  have o9 : (o : Int) < 9 := by omega
  have hrow := h1.rows o ho
  rw [hv] at hrow
  have HV := Lib.hid hv
  have hown : ∀ k, (V o).ownBlock = some k → k < w.heap.size := fun k hk => h.slt k (Or.inr (Or.inr ⟨o, ho, hk⟩))
  have HO := Lib.hid hown
  have hnpb : w.heap.size ≠ pb := by have := h.lt; omega
  have hfz := h1.free (1 + o) (by omega)
  have hsr : (F o).Pairwise (· ≤ ·) := hs.imp (fun h => Int.le_of_lt h)
  obtain ⟨i, hi⟩ : ∃ i, (F o).countP (· < f) = i := ⟨_, rfl⟩
  have hil : i ≤ (F o).length := by rw [← hi]; exact List.countP_le_length
  have hadd : addL (F o) f = insL (F o) i f := by unfold addL; rw [hi]
  have hsea : ∀ w', w'.heap = w1.heap → Calls Try.prog 75 #[.slice a (F o).length cap, .int .i64 f] w' fun e w'' => e = .returned (.tuple #[.int .i64 i, .bool false]) ∧ ∃ q, w'' = w'.drewN q := fun w' hw => by
    have := search_any (.slice a (F o).length cap) (F o) f w' (own_heap' hrow (fun g _ => by rw [hw])) hsr hl
    rwa [hi, show (F o).contains f = false by simpa using hf] at this
  have HSEA := Lib.hid hsea
  have HADD := Lib.hid hadd
  have HROW := Lib.hid hrow
  clear hs hsr hi hadd hsea hrow hv hown hf
  have c1 : ∀ p : Wc (fun w' => w1.drew = w'), p.w.cell? ⟨w.heap.size, 1, none⟩ = some (.int .i64 o) := fun p => by rw [← p.h]; exact d1
  have c2 : ∀ p : Wc (fun w' => w1.drew = w'), p.w.cell? ⟨pb, 1 + o, none⟩ = some (.slice a (F o).length cap) := fun p => by rw [← p.h]; exact gl
  go_enter Try.func48, Try.ntmps48
  go_wp2_with (fail)
  rw [← hw1]
  clear hw1
  (refine region_class (fun w' => w1.drew = w') (by kernel_rfl) (by kernel_rfl) (rfl) ?_; intro _; (repeat (first | go_big_quiet_step (fail) | quiet_step (fail))); refine wpQuiet_nil ?_; intro wz hz)
  obtain rfl := hz
  clear c1 c2
  go_wp2_with (fail)
  refine (HSEA.out w1.drew rfl).mono ?_
  rintro e w' ⟨rfl, q, hw'⟩
  rw [hw']
  clear hw'
  go_wp2_with (fail)
  go_ret
  exact ⟨rfl, by repeat (first | with_reducible exact Below.refl _ _ | with_reducible assumption | with_reducible refine below_drewN ?_ _ | with_reducible refine Below.drew ?_ | with_reducible refine Below.setCell ?_ (by first | omega | (simp <;> omega)) _ | with_reducible refine Below.alloc ?_ (by first | omega | (simp <;> omega)) _)⟩

theorem take_yes (pb pm hb : Nat) (V : Nat → Value) (F : Nat → List Int) (H : List Blk) (f : Int) (o : Nat) (w : World) (h : BudIn w pb pm hb V F H) (ho : o < 9) (hs : (F o).Pairwise (· < ·)) (hl : (F o).length ≤ 1000000) (hf : f ∈ F o) :
    Calls Try.prog 48 #[.pointer (some ⟨pb, 0, none⟩), .agg #[.int .i64 f, .int .i64 o]] w fun e w' => e = .returned (.bool true) ∧ BudPost w pb pm hb V (upd F o (delL (F o) f)) H w' := by
  obtain ⟨w1, hw1⟩ : ∃ w1, w1 = w.alloc (.cells #[.int .i64 f, .int .i64 o] 39) := ⟨_, rfl⟩
  have hb1 : Below w.heap.size w w1 := by rw [hw1]; repeat (first | with_reducible exact Below.refl _ _ | with_reducible assumption | with_reducible refine below_drewN ?_ _ | with_reducible refine Below.alloc ?_ (by simp <;> omega) _)
  have h1 := h.below hb1
  have d0 : w1.cell? ⟨w.heap.size, 0, none⟩ = some (.int .i64 f) := by rw [hw1]; simp [go_sem]
  have d1 : w1.cell? ⟨w.heap.size, 1, none⟩ = some (.int .i64 o) := by rw [hw1]; simp [go_sem]
  have hsz : w.heap.size < w1.heap.size := by rw [hw1]; simp
  obtain ⟨a, cap, hv⟩ := own_slice (h1.rows o ho)
  have gl := h1.cl o ho
  rw [hv] at gl
  have o0 : (0 : Int) ≤ (o : Int) := by omega
  have o9 : (o : Int) < 9 := by omega
  have hrow := h1.rows o ho
  rw [hv] at hrow
  have HV := Lib.hid hv
  have hown : ∀ k, (V o).ownBlock = some k → k < w.heap.size := fun k hk => h.slt k (Or.inr (Or.inr ⟨o, ho, hk⟩))
  have HO := Lib.hid hown
  have hnpb : w.heap.size ≠ pb := by have := h.lt; omega
  have hfz := h1.free (1 + o) (by omega)
  have hsr : (F o).Pairwise (· ≤ ·) := hs.imp (fun h => Int.le_of_lt h)
  obtain ⟨i, hi⟩ : ∃ i, (F o).countP (· < f) = i := ⟨_, rfl⟩
  have hil : i < (F o).length := by rw [← hi]; exact (at_count (F o) f hs hf).1
  have hadd : delL (F o) f = (F o).eraseIdx i := by unfold delL; rw [hi]
  have hil2 : (i : Int) + 1 ≤ 1000000 := by omega
  have hsea : ∀ w', w'.heap = w1.heap → Calls Try.prog 75 #[.slice a (F o).length cap, .int .i64 f] w' fun e w'' => e = .returned (.tuple #[.int .i64 i, .bool true]) ∧ ∃ q, w'' = w'.drewN q := fun w' hw => by
    have := search_any (.slice a (F o).length cap) (F o) f w' (own_heap' hrow (fun g _ => by rw [hw])) hsr hl
    rwa [hi, List.contains_iff_mem.2 hf] at this
  have HSEA := Lib.hid hsea
  have HADD := Lib.hid hadd
  have HROW := Lib.hid hrow
  clear hs hsr hi hadd hsea hrow hv hown hf
  have c1 : ∀ p : Wc (fun w' => w1.drew = w'), p.w.cell? ⟨w.heap.size, 1, none⟩ = some (.int .i64 o) := fun p => by rw [← p.h]; exact d1
  have c2 : ∀ p : Wc (fun w' => w1.drew = w'), p.w.cell? ⟨pb, 1 + o, none⟩ = some (.slice a (F o).length cap) := fun p => by rw [← p.h]; exact gl
  go_enter Try.func48, Try.ntmps48
  go_wp2_with (fail)
  rw [← hw1]
  clear hw1
  (refine region_class (fun w' => w1.drew = w') (by kernel_rfl) (by kernel_rfl) (rfl) ?_; intro _; (repeat (first | go_big_quiet_step (fail) | quiet_step (fail))); refine wpQuiet_nil ?_; intro wz hz)
  obtain rfl := hz
  clear c1 c2
  go_wp2_with (fail)
  refine (HSEA.out w1.drew rfl).mono ?_
  rintro e w' ⟨rfl, q, hw'⟩
  obtain ⟨w2, hw2⟩ : ∃ w2, w2 = w1.drew.drewN q := ⟨_, rfl⟩
  rw [hw', ← hw2]
  have hb2 : Below w1.heap.size w1 w2 := by rw [hw2]; repeat (first | with_reducible exact Below.refl _ _ | with_reducible assumption | with_reducible refine below_drewN ?_ _ | with_reducible refine Below.drew ?_ | with_reducible refine Below.setCell ?_ (by first | omega | (simp <;> omega)) _ | with_reducible refine Below.alloc ?_ (by first | omega | (simp <;> omega)) _)
  clear hw2 hw'
  have hbw2 : Below w.heap.size w w2 := hb1.trans (hb2.mono hb1.size)
  have hz2 := hb2.size
  have HSB : Hid (∀ w', Below w1.heap.size w1 w' → w'.cell? ⟨w.heap.size, 0, none⟩ = some (.int .i64 f) ∧ w'.cell? ⟨w.heap.size, 1, none⟩ = some (.int .i64 o)) := Lib.hid fun w' hb => ⟨keep hb hsz d0, keep hb hsz d1⟩
  have hfar : ∀ (w' : World) (u : Value) (j : Nat), (w'.setCell ⟨pb, 1 + o, none⟩ u).cell? ⟨w.heap.size, j, none⟩ = w'.cell? ⟨w.heap.size, j, none⟩ := fun w' u j => World.cell?_setCell_other w' ⟨pb, 1 + o, none⟩ ⟨w.heap.size, j, none⟩ u (fun e => by simp at e <;> first | exact hnpb e.1 | exact hnpb e.1.symm)
  have HFAR := Lib.hid hfar
  clear hfar d0 d1
  have fin : ∀ (w3 w4 : World) (a4 : Option Addr) (cap4 : Nat), Below w1.heap.size w1 w3 → RowI w4 0 (.slice a4 ((F o).eraseIdx i).length cap4) ((F o).eraseIdx i) → Touch (fun k => Value.ownBlock (.slice a (F o).length cap) = some k) w3 w4 →
      (∀ k, Value.ownBlock (.slice a4 ((F o).eraseIdx i).length cap4) = some k → Value.ownBlock (.slice a (F o).length cap) = some k ∨ w3.heap.size ≤ k) → BudPost w pb pm hb V (upd F o (delL (F o) f)) H (w4.setCell ⟨pb, 1 + o, none⟩ (.slice a4 ((F o).eraseIdx i).length cap4)) := fun w3 w4 a4 cap4 hb3 hr ht hn => by
    rw [HADD.out]
    rw [← HV.out] at ht hn
    exact h.list (hb1.trans (hb3.mono hb1.size)) ho hr ht hn
  have FIN := Lib.hid fin
  clear fin
  have hwi : IntKind.i64.wrap ((i : Int) + 1) = (i : Int) + 1 := IntWalk.i64_in _ ⟨by omega, by omega⟩
  go_wp2_with (fail)
  go_region_held3 (fun w' => w'.cell? ⟨w.heap.size, 0, none⟩ = some (.int .i64 f) ∧ w'.cell? ⟨w.heap.size, 1, none⟩ = some (.int .i64 o)) (first | (refine HSB.out _ ?_; (repeat (first | with_reducible exact Below.refl _ _ | with_reducible assumption | with_reducible refine below_drewN ?_ _ | with_reducible refine Below.drew ?_ | with_reducible refine Below.setCell ?_ (by first | omega | (simp <;> omega)) _ | with_reducible refine Below.alloc ?_ (by first | omega | (simp <;> omega)) _)); done) | exact ⟨d40, d41⟩ | exact ⟨(HFAR.out _ _ _).trans d40, (HFAR.out _ _ _).trans d41⟩)
    ((go_at_call 76
      refine (del_any (.slice a (F o).length cap) (F o) i _ (by exact own_heap' HROW.out (fun g hg => Below.block (B := w1.heap.size) (by repeat (first | with_reducible exact Below.refl _ _ | with_reducible assumption | with_reducible refine below_drewN ?_ _ | with_reducible refine Below.drew ?_ | with_reducible refine Below.setCell ?_ (by first | omega | (simp <;> omega)) _ | with_reducible refine Below.alloc ?_ (by first | omega | (simp <;> omega)) _)) g (World.ownsRow.lt HROW.out g hg).2)) hil hl).mono ?_
      rintro e w4 ⟨a4, cap4, rfl, hr4, ht4, hn4⟩
      have hz4 := ht4.size
      have hnb : ∀ k, k < w1.heap.size → Value.ownBlock (.slice a (F o).length cap) ≠ some k → w4.heap[k]? = w1.heap[k]? := fun k hk hne => (ht4.block k (by simp; omega) hne).trans ((Below.block (B := w1.heap.size) (by repeat (first | with_reducible exact Below.refl _ _ | with_reducible assumption | with_reducible refine below_drewN ?_ _ | with_reducible refine Below.drew ?_ | with_reducible refine Below.setCell ?_ (by first | omega | (simp <;> omega)) _ | with_reducible refine Below.alloc ?_ (by first | omega | (simp <;> omega)) _)) k hk))
      have hno : Value.ownBlock (.slice a (F o).length cap) ≠ some w.heap.size := fun e => by have := HO.out _ (by rw [HV.out]; exact e); omega
      have d40 := (cell_of_heap (hnb _ hsz hno) 0).trans (HSB.out _ (Below.refl _ _)).1
      have d41 := (cell_of_heap (hnb _ hsz hno) 1).trans (HSB.out _ (Below.refl _ _)).2
      have hnp : Value.ownBlock (.slice a (F o).length cap) ≠ some pb := by rw [← HV.out]; exact h1.nepb o ho
      have e4 := (cell_of_heap (hnb _ h1.lt hnp) (1 + o)).trans gl
      have f4 := (frozen_of_heap (hnb _ h1.lt hnp) (1 + o)).trans hfz))
  all_goals
    go_wp2_with (fail)
    go_ret
    exact ⟨rfl, FIN.out _ _ _ _ (by repeat (first | with_reducible exact Below.refl _ _ | with_reducible assumption | with_reducible refine below_drewN ?_ _ | with_reducible refine Below.drew ?_ | with_reducible refine Below.setCell ?_ (by first | omega | (simp <;> omega)) _ | with_reducible refine Below.alloc ?_ (by first | omega | (simp <;> omega)) _)) hr4 ht4 hn4⟩


end Go.Proofs.Ytoiiblajgkdabaa

namespace Go.Proofs.Ytoiiblajgkdabaa
set_option linter.unusedSimpArgs false
set_option linter.unusedVariables false
set_option maxRecDepth 100000
open Go.RowKit

/-- A part always has a block. -/
def Has (P : HP) (b : Nat) : Prop := ∀ h : PH, P h → h b ≠ none
theorem has_own {S : Nat → Prop} {I : World → Prop} {b : Nat} (h : S b) : Has (ownP S I) b := fun _ p => (p.1 b).1 h
theorem has_ex {α : Sort _} {P : α → HP} {b : Nat} (h : ∀ x, Has (P x) b) : Has (exP P) b := fun _ ⟨x, p⟩ => h x _ p
theorem has_left {P Q : HP} {b : Nat} (h : Has P b) : Has (P * Q) b := fun _ ⟨x, y, _, e, p, _⟩ => by
  rw [e]; intro hn; exact h x p (PH.both_none.1 hn).1
theorem has_right {P Q : HP} {b : Nat} (h : Has Q b) : Has (P * Q) b := by rw [star_comm]; exact has_left h
theorem Sat.free {g w : World} {S : Nat → Prop} {I : World → Prop} {R : HP} (h : Sat g w (ownP S I * R)) {b : Nat} (hb : Has R b) : ¬ S b := by
  obtain ⟨_, _, _, x, hx, p, q, hpq, rfl, ⟨hp, _⟩, hq⟩ := h
  intro hs
  rcases hpq b with e | e
  · exact (hp b).1 hs e
  · exact hb q hq e
theorem Sat.has_lt {g w : World} {P : HP} (h : Sat g w P) {b : Nat} (hb : Has P b) : b < w.heap.size := by
  obtain ⟨_, _, _, x, hx, p⟩ := h
  cases e : x b with
  | none => exact absurd e (hb x p)
  | some o => exact heap_lt (hx b o e)
theorem Sat.ne {g w : World} {P Q : HP} (h : Sat g w (P * Q)) {a b : Nat} (ha : Has P a) (hb : Has Q b) : a ≠ b := by
  obtain ⟨_, _, _, x, hx, p, q, hpq, rfl, hp, hq⟩ := h
  rintro rfl
  rcases hpq a with e | e
  · exact ha p hp e
  · exact hb q hq e
theorem Sat.swap {g w : World} {A B R : HP} (h : Sat g w (A * (B * R))) : Sat g w (B * (A * R)) := h.perm (by ac_rfl)
theorem Sat.up3 {g w : World} {A B C R : HP} (h : Sat g w (A * (B * (C * R)))) : Sat g w (C * (A * (B * R))) := h.perm (by ac_rfl)
theorem Sat.down3 {g w : World} {A B C R : HP} (h : Sat g w (C * (A * (B * R)))) : Sat g w (A * (B * (C * R))) := h.perm (by ac_rfl)
theorem Sat.up4 {g w : World} {A B C D R : HP} (h : Sat g w (A * (B * (C * (D * R))))) : Sat g w (D * (A * (B * (C * R)))) := h.perm (by ac_rfl)
theorem Sat.down4 {g w : World} {A B C D R : HP} (h : Sat g w (D * (A * (B * (C * R))))) : Sat g w (A * (B * (C * (D * R)))) := h.perm (by ac_rfl)


end Go.Proofs.Ytoiiblajgkdabaa

namespace Go.Proofs.Ytoiiblajgkdabaa
set_option linter.unusedSimpArgs false
set_option linter.unusedVariables false
set_option maxRecDepth 100000
open Go.RowKit
set_option maxHeartbeats 4000000

/-- The lists hold just the blocks that are free. -/
def CanF (T : Nat → Prop) (F : Nat → List Int) : Prop := ∀ o, o < 9 → (F o).Pairwise (· < ·) ∧ ∀ f : Int, f ∈ F o ↔ ∃ a : Nat, f = ((a * 2 ^ o : Nat) : Int) ∧ QCan T a o
def Small (T : Nat → Prop) : Prop := ∀ x, T x → x < 256
theorem mul_lt {a b o : Nat} : ((a * 2 ^ o : Nat) : Int) = ((b * 2 ^ o : Nat) : Int) ↔ a = b := by
  constructor
  · intro h
    have : a * 2 ^ o = b * 2 ^ o := by omega
    exact Nat.eq_of_mul_eq_mul_right (Nat.two_pow_pos o) this
  · rintro rfl; rfl
theorem len_of_rise : ∀ (L : List Int) (lo hi : Int), L.Pairwise (· < ·) → (∀ x ∈ L, lo ≤ x ∧ x < hi) → lo ≤ hi → (L.length : Int) ≤ hi - lo
  | [], lo, hi, _, _, h => by simp; omega
  | x :: L, lo, hi, hp, hb, h => by
    obtain ⟨h1, h2⟩ := List.pairwise_cons.1 hp
    have hx := hb x (by simp)
    have ih := len_of_rise L (x + 1) hi h2 (fun y hy => ⟨by have := h1 y hy; omega, (hb y (by simp [hy])).2⟩) (by omega)
    simp only [List.length_cons]; push_cast; omega
theorem CanF.len {T : Nat → Prop} {F : Nat → List Int} (h : CanF T F) (hs : Small T) {o : Nat} (ho : o < 9) : (F o).length ≤ 256 := by
  have := len_of_rise (F o) 0 256 (h o ho).1 (fun f hf => by
    obtain ⟨a, rfl, hc⟩ := ((h o ho).2 f).1 hf
    have := hs _ (hc.1 _ (in_block a o))
    omega) (by omega)
  omega
theorem CanF.add {T : Nat → Prop} {F : Nat → List Int} (h : CanF T F) {a o : Nat} (ho : o ≤ 8) (hdis : ∀ x, x / 2 ^ o = a → ¬ T x) (hbud : o < 8 → ¬ QFull T (budQ a) o) :
    ((a * 2 ^ o : Nat) : Int) ∉ F o ∧ CanF (plusQ T a o) (upd F o (addL (F o) ((a * 2 ^ o : Nat) : Int))) := by
  have hnin : ((a * 2 ^ o : Nat) : Int) ∉ F o := fun hm => by
    obtain ⟨b, hb, hc⟩ := ((h o (by omega)).2 _).1 hm
    obtain rfl := mul_lt.1 hb
    exact hdis _ (in_block a o) (hc.1 _ (in_block a o))
  refine ⟨hnin, fun j hj => ?_⟩
  by_cases e : j = o
  · subst e
    rw [upd_same]
    refine ⟨rise_addL _ _ (h j hj).1 hnin, fun f => ?_⟩
    rw [mem_addL, (h j hj).2]
    constructor
    · rintro (rfl | ⟨b, rfl, hc⟩)
      · exact ⟨a, rfl, (can_plus ho hdis hbud a j (by omega)).2 (Or.inr ⟨rfl, rfl⟩)⟩
      · exact ⟨b, rfl, (can_plus ho hdis hbud b j (by omega)).2 (Or.inl hc)⟩
    · rintro ⟨b, rfl, hc⟩
      rcases (can_plus ho hdis hbud b j (by omega)).1 hc with hc | ⟨rfl, _⟩
      · exact Or.inr ⟨b, rfl, hc⟩
      · exact Or.inl rfl
  · rw [upd_other F _ e]
    refine ⟨(h j hj).1, fun f => ?_⟩
    rw [(h j hj).2]
    constructor
    · rintro ⟨b, rfl, hc⟩; exact ⟨b, rfl, (can_plus ho hdis hbud b j (by omega)).2 (Or.inl hc)⟩
    · rintro ⟨b, rfl, hc⟩
      rcases (can_plus ho hdis hbud b j (by omega)).1 hc with hc | ⟨_, e'⟩
      · exact ⟨b, rfl, hc⟩
      · exact absurd e' e
theorem CanF.del {T : Nat → Prop} {F : Nat → List Int} (h : CanF T F) {a o : Nat} (ho : o ≤ 8) (hc : QCan T a o) :
    ((a * 2 ^ o : Nat) : Int) ∈ F o ∧ CanF (minusQ T a o) (upd F o (delL (F o) ((a * 2 ^ o : Nat) : Int))) := by
  have hin : ((a * 2 ^ o : Nat) : Int) ∈ F o := ((h o (by omega)).2 _).2 ⟨a, rfl, hc⟩
  refine ⟨hin, fun j hj => ?_⟩
  by_cases e : j = o
  · subst e
    rw [upd_same]
    refine ⟨rise_delL _ _ (h j hj).1, fun f => ?_⟩
    rw [mem_delL _ _ _ (h j hj).1 hin, (h j hj).2]
    constructor
    · rintro ⟨hne, b, rfl, hb⟩
      exact ⟨b, rfl, (can_minus ho hc b j (by omega)).2 ⟨hb, fun e' => hne (by rw [e'.1])⟩⟩
    · rintro ⟨b, rfl, hb⟩
      obtain ⟨h1, h2⟩ := (can_minus ho hc b j (by omega)).1 hb
      exact ⟨fun e' => h2 ⟨mul_lt.1 e', rfl⟩, b, rfl, h1⟩
  · rw [upd_other F _ e]
    refine ⟨(h j hj).1, fun f => ?_⟩
    rw [(h j hj).2]
    constructor
    · rintro ⟨b, rfl, hb⟩; exact ⟨b, rfl, (can_minus ho hc b j (by omega)).2 ⟨hb, fun e' => e e'.2⟩⟩
    · rintro ⟨b, rfl, hb⟩; exact ⟨b, rfl, ((can_minus ho hc b j (by omega)).1 hb).1⟩

/-- A Buddy, told by its free frames and by what it has given. -/
def midP (pb pm : Nat) (T : Nat → Prop) (H : List Blk) : HP := exP fun x : Nat × (Nat → Value) × (Nat → List Int) => ownP (budS pb x.1 x.2.1) (fun w => BudIn w pb pm x.1 x.2.1 x.2.2 H ∧ CanF T x.2.2 ∧ Small T)
theorem loc_mid (pb pm hb : Nat) (V : Nat → Value) (F : Nat → List Int) (T : Nat → Prop) (H : List Blk) : Loc (budS pb hb V) (fun w => BudIn w pb pm hb V F H ∧ CanF T F ∧ Small T) := fun _ _ h e => ⟨h.1.heap e, h.2⟩
theorem Sat.mid {g w : World} {pb pm : Nat} {T : Nat → Prop} {H : List Blk} {R : HP} (h : Sat g w (midP pb pm T H * R)) :
    ∃ hb V F, BudIn w pb pm hb V F H ∧ CanF T F ∧ Small T ∧ ∀ w' F' H' T', BudPost w pb pm hb V F' H' w' → CanF T' F' → Small T' → Sat g w' (midP pb pm T' H' * R) := by
  obtain ⟨⟨hb, V, F⟩, h⟩ := h.ex
  have hi : BudIn w pb pm hb V F H ∧ CanF T F ∧ Small T := h.inv
  exact ⟨hb, V, F, hi.1, hi.2.1, hi.2.2, fun w' F' H' T' ⟨V', h1, h2, h3⟩ hc hs => Sat.ex' (hb, V', F') (h.touch h2 ⟨h1, hc, hs⟩ (loc_mid _ _ _ _ _ _ _) h3 h1.slt)⟩
theorem has_mid (pb pm : Nat) (T : Nat → Prop) (H : List Blk) : Has (midP pb pm T H) pb := has_ex fun _ => has_own (Or.inl rfl)
theorem small_plus {T : Nat → Prop} (h : Small T) {a o : Nat} (ha : (a + 1) * 2 ^ o ≤ 256) : Small (plusQ T a o) := fun x hx => by
  rcases hx with hx | hx
  · exact h x hx
  · have := Nat.lt_mul_of_div_lt (show x / 2 ^ o < a + 1 by omega) (Nat.two_pow_pos o)
    have h3 := Nat.mul_comm (2 ^ o) (a + 1)
    omega
theorem small_minus {T : Nat → Prop} (h : Small T) (a o : Nat) : Small (minusQ T a o) := fun x hx => h x hx.1

theorem s_bput (pb pm : Nat) (T : Nat → Prop) (H : List Blk) (a o : Nat) (f : Int) (g w : World) (R : HP) (h : Sat g w (midP pb pm T H * R)) (hf : f = ((a * 2 ^ o : Nat) : Int)) (ho : o ≤ 8) (ha : (a + 1) * 2 ^ o ≤ 256)
    (hdis : ∀ x, x / 2 ^ o = a → ¬ T x) (hbud : o < 8 → ¬ QFull T (budQ a) o) :
    Calls Try.prog 49 #[.pointer (some ⟨pb, 0, none⟩), .agg #[.int .i64 f, .int .i64 o]] w fun e w' => e = .returned (.tuple #[]) ∧ Sat g w' (midP pb pm (plusQ T a o) H * R) := by
  obtain ⟨hb, V, F, hi, hc, hs, back⟩ := h.mid
  subst hf
  obtain ⟨_, h2⟩ := hc.add ho hdis hbud
  exact (bput_any pb pm hb V F H _ o w hi (by omega) (hc o (by omega)).1 (by have := hc.len hs (o := o) (by omega); omega)).mono fun e w' ⟨he, hp⟩ => ⟨he, back _ _ _ _ hp h2 (small_plus hs ha)⟩
theorem s_btake (pb pm : Nat) (T : Nat → Prop) (H : List Blk) (a o : Nat) (f : Int) (g w : World) (R : HP) (h : Sat g w (midP pb pm T H * R)) (hf : f = ((a * 2 ^ o : Nat) : Int)) (ho : o ≤ 8) (hc : QCan T a o) :
    Calls Try.prog 48 #[.pointer (some ⟨pb, 0, none⟩), .agg #[.int .i64 f, .int .i64 o]] w fun e w' => e = .returned (.bool true) ∧ Sat g w' (midP pb pm (minusQ T a o) H * R) := by
  obtain ⟨hb, V, F, hi, hcan, hs, back⟩ := h.mid
  subst hf
  obtain ⟨h1, h2⟩ := hcan.del ho hc
  exact (take_yes pb pm hb V F H _ o w hi (by omega) (hcan o (by omega)).1 (by have := hcan.len hs (o := o) (by omega); omega) h1).mono fun e w' ⟨he, hp⟩ => ⟨he, back _ _ _ _ hp h2 (small_minus hs a o)⟩
theorem s_btake_no (pb pm : Nat) (T : Nat → Prop) (H : List Blk) (a o : Nat) (f : Int) (g w : World) (R : HP) (h : Sat g w (midP pb pm T H * R)) (hf : f = ((a * 2 ^ o : Nat) : Int)) (ho : o ≤ 8) (hc : ¬ QCan T a o) :
    Calls Try.prog 48 #[.pointer (some ⟨pb, 0, none⟩), .agg #[.int .i64 f, .int .i64 o]] w fun e w' => e = .returned (.bool false) ∧ Below w.heap.size w w' := by
  obtain ⟨hb, V, F, hi, hcan, hs, back⟩ := h.mid
  subst hf
  exact take_no pb pm hb V F H _ o w hi (by omega) (hcan o (by omega)).1 (by have := hcan.len hs (o := o) (by omega); omega) (fun hm => by
    obtain ⟨b, hb, hq⟩ := ((hcan o (by omega)).2 _).1 hm
    obtain rfl := mul_lt.1 hb
    exact hc hq)

end Go.Proofs.Ytoiiblajgkdabaa

namespace Go.Proofs.Ytoiiblajgkdabaa
set_option linter.unusedSimpArgs false
set_option linter.unusedVariables false
set_option maxRecDepth 100000

def rangeT (r p : Nat) : Nat → Prop := fun x => r ≤ x ∧ x < p
/-- A block that begins behind the reserved frames and goes beyond p is not within n. -/
def NewInv (n r p : Nat) : Prop := ∀ o c, o < 8 → r ≤ c * 2 ^ (o + 1) → c * 2 ^ (o + 1) < p → p < (c + 1) * 2 ^ (o + 1) → n < (c + 1) * 2 ^ (o + 1)
theorem newInv_start (n r : Nat) : NewInv n r r := fun o c _ h1 h2 _ => by omega
theorem pow_split {i j : Nat} (h : i ≤ j) : ∃ d, 2 ^ j = 2 ^ i * 2 ^ d ∧ 1 ≤ 2 ^ d := ⟨j - i, by rw [← Nat.pow_add]; congr 1; omega, Nat.one_le_two_pow⟩
theorem between {m c a : Nat} (h1 : c * m < a * m) (h2 : a * m < (c + 1) * m) : False := by
  have h3 := Nat.lt_of_mul_lt_mul_right h1
  have h4 := Nat.lt_of_mul_lt_mul_right h2
  omega
theorem newInv_step {n r a k : Nat} (hk : k ≤ 8) (h : NewInv n r (a * 2 ^ k)) (hmax : k < 8 → (a * 2 ^ k) % (2 * 2 ^ k) = 0 → n < a * 2 ^ k + 2 * 2 ^ k) : NewInv n r ((a + 1) * 2 ^ k) := by
  intro o c ho h1 h2 h3
  have hs : (a + 1) * 2 ^ k = a * 2 ^ k + 2 ^ k := by rw [Nat.add_mul]; omega
  have hc : (c + 1) * 2 ^ (o + 1) = c * 2 ^ (o + 1) + 2 ^ (o + 1) := by rw [Nat.add_mul]; omega
  have hk0 := Nat.two_pow_pos k
  have ho0 := Nat.two_pow_pos (o + 1)
  rcases Nat.lt_trichotomy (c * 2 ^ (o + 1)) (a * 2 ^ k) with hlt | heq | hgt
  · exact h o c ho h1 hlt (by omega)
  · have hko : k ≤ o := by
      refine Nat.le_of_not_lt fun hk' => ?_
      obtain ⟨d, hd, hd1⟩ := pow_split (show o + 1 ≤ k by omega)
      have : 2 ^ (o + 1) ≤ 2 ^ k := by rw [hd]; exact Nat.le_mul_of_pos_right _ (by omega)
      omega
    obtain ⟨d, hd, hd1⟩ := pow_split (show k + 1 ≤ o + 1 by omega)
    have hp : 2 ^ (k + 1) = 2 * 2 ^ k := by rw [Nat.pow_succ]; omega
    have hz : (a * 2 ^ k) % (2 * 2 ^ k) = 0 := by
      rw [← heq, hd, hp, ← Nat.mul_assoc, Nat.mul_comm c, Nat.mul_assoc, Nat.mul_mod_right]
    have h5 := hmax (by omega) hz
    have h6 : 2 ^ (k + 1) ≤ 2 ^ (o + 1) := by rw [hd]; exact Nat.le_mul_of_pos_right _ (by omega)
    omega
  · exfalso
    by_cases hko : o + 1 ≤ k
    · obtain ⟨d, hd, hd1⟩ := pow_split hko
      have he : (a + 1) * 2 ^ k = ((a + 1) * 2 ^ d) * 2 ^ (o + 1) := by rw [hd, Nat.mul_assoc, Nat.mul_comm (2 ^ d)]
      rw [he] at h2 h3
      exact between h2 h3
    · obtain ⟨d, hd, hd1⟩ := pow_split (show k ≤ o + 1 by omega)
      have he : c * 2 ^ (o + 1) = (c * 2 ^ d) * 2 ^ k := by rw [hd, Nat.mul_assoc, Nat.mul_comm (2 ^ d)]
      rw [he] at h2 hgt
      exact between hgt h2
theorem new_bud {n r a k : Nat} (h : NewInv n r (a * 2 ^ k)) (hn : (a + 1) * 2 ^ k ≤ n) : k < 8 → ¬ QFull (rangeT r (a * 2 ^ k)) (budQ a) k := by
  intro hk hf
  have h1 := hf _ (in_block (budQ a) k)
  unfold rangeT at h1
  by_cases he : a % 2 = 0
  · have : budQ a = a + 1 := by unfold budQ; rw [if_pos he]
    rw [this] at h1
    have : a * 2 ^ k ≤ (a + 1) * 2 ^ k := Nat.mul_le_mul_right _ (by omega)
    omega
  · have hb : budQ a = a - 1 := by unfold budQ; rw [if_neg he]
    rw [hb] at h1
    obtain ⟨c, hc⟩ : ∃ c, a = 2 * c + 1 := ⟨a / 2, by omega⟩
    subst hc
    have e1 : (2 * c + 1 - 1) * 2 ^ k = c * 2 ^ (k + 1) := by rw [Nat.pow_succ, Nat.add_sub_cancel, Nat.mul_comm 2 c, Nat.mul_assoc, Nat.mul_comm 2]
    have e2 : (2 * c + 1 + 1) * 2 ^ k = (c + 1) * 2 ^ (k + 1) := by rw [Nat.pow_succ, show 2 * c + 1 + 1 = 2 * (c + 1) by omega, Nat.mul_comm 2 (c + 1), Nat.mul_assoc, Nat.mul_comm 2]
    rw [e1] at h1
    have h3 : (2 * c + 1) * 2 ^ k < (2 * c + 1 + 1) * 2 ^ k := Nat.mul_lt_mul_of_pos_right (by omega) (Nat.two_pow_pos k)
    have := h k c hk h1.1 h1.2 (by rw [← e2]; exact h3)
    omega
theorem range_plus {r a k : Nat} (h : r ≤ a * 2 ^ k) : plusQ (rangeT r (a * 2 ^ k)) a k = rangeT r ((a + 1) * 2 ^ k) := by
  funext x
  apply propext
  unfold plusQ rangeT
  have hk0 := Nat.two_pow_pos k
  have hs : (a + 1) * 2 ^ k = a * 2 ^ k + 2 ^ k := by rw [Nat.add_mul]; omega
  constructor
  · rintro (h1 | h1)
    · omega
    · have h2 := Nat.div_mul_le_self x (2 ^ k)
      have h3 := Nat.lt_mul_of_div_lt (show x / 2 ^ k < a + 1 by omega) hk0
      rw [h1] at h2
      have h4 := Nat.mul_comm (2 ^ k) (a + 1)
      omega
  · rintro ⟨h1, h2⟩
    by_cases e : x < a * 2 ^ k
    · exact Or.inl ⟨h1, e⟩
    · right
      refine Nat.div_eq_of_lt_le (by omega) h2
theorem range_dis {r a k : Nat} : ∀ x, x / 2 ^ k = a → ¬ rangeT r (a * 2 ^ k) x := fun x hx h => by
  have h2 := Nat.div_mul_le_self x (2 ^ k)
  rw [hx] at h2
  have := h.2
  omega

end Go.Proofs.Ytoiiblajgkdabaa

namespace Go.Proofs.Ytoiiblajgkdabaa
set_option linter.unusedSimpArgs false
set_option linter.unusedVariables false
set_option maxRecDepth 100000
open Go.RowKit
set_option maxHeartbeats 1000000

/-- A memory of n frames of words: its struct at pm, its words W in the block bk. -/
structure MemIn (w : World) (pm bk n : Nat) (W : Nat → Int) : Prop where
  ptr : w.cell? ⟨pm, 0, none⟩ = some (.slice (some ⟨bk, 0, none⟩) n n)
  cell : ∀ i, i < 16 * n → w.cell? ⟨bk, i, none⟩ = some (.int .u64 (W i))
  free : ∀ i, i < 16 * n → w.frozen? ⟨bk, i, none⟩ = false
  lo : ∀ i, 0 ≤ W i
  hi : ∀ i, W i < 18446744073709551616
  pm_lt : pm < w.heap.size
  bk_lt : bk < w.heap.size
  ne : pm ≠ bk
  n1 : 1 ≤ n
  n2 : n ≤ 256


theorem MemIn.touch {w w' : World} {pm bk n : Nat} {W : Nat → Int} (h : MemIn w pm bk n W) {S : Nat → Prop} (t : Touch S w w') (h1 : ¬ S pm) (h2 : ¬ S bk) : MemIn w' pm bk n W :=
  ⟨by rw [cell_of_heap (t.block pm h.pm_lt h1)]; exact h.ptr, fun i hi => by rw [cell_of_heap (t.block bk h.bk_lt h2)]; exact h.cell i hi,
   fun i hi => by rw [frozen_of_heap (t.block bk h.bk_lt h2)]; exact h.free i hi, h.lo, h.hi, Nat.lt_of_lt_of_le h.pm_lt t.size, Nat.lt_of_lt_of_le h.bk_lt t.size, h.ne, h.n1, h.n2⟩
theorem MemIn.below {w w' : World} {pm bk n : Nat} {W : Nat → Int} (h : MemIn w pm bk n W) (t : Below w.heap.size w w') : MemIn w' pm bk n W :=
  h.touch (S := fun _ => False) (Touch.of_below t) id id

theorem frames_any (pm bk n : Nat) (W : Nat → Int) (w : World) (hm : MemIn w pm bk n W) :
    Calls Try.prog 15 #[.pointer (some ⟨pm, 0, none⟩)] w fun e w' => e = .returned (.int .i64 n) ∧ w = w' := by
  have h1 := hm.ptr
  clear hm
  go_enter Try.func15, Try.ntmps15
  go_wp2
  go_ret
  exact ⟨rfl, rfl⟩

theorem at_yes (pm bk n : Nat) (W : Nat → Int) (a : Int) (w : World) (hm : MemIn w pm bk n W) (h0 : 0 ≤ a) (h1 : a < 16 * n) :
    Calls Try.prog 55 #[.pointer (some ⟨pm, 0, none⟩), .int .i64 a] w fun e w' => e = .returned (.pointer (some ⟨bk, a.toNat, none⟩)) ∧ w = w' := by
  have hp := hm.ptr
  have hn := hm.n2
  clear hm
  have H : Hid ((a / 16).toNat * 16 + (a % 16).toNat = a.toNat) := by show _ = _; omega
  go_enter Try.func55, Try.ntmps55
  go_wp2
  go_ret
  exact ⟨by rw [← H.out]; rfl, rfl⟩

theorem at_no (pm bk n : Nat) (W : Nat → Int) (a : Int) (w : World) (hm : MemIn w pm bk n W) (h : ¬ (0 ≤ a ∧ a < 16 * n)) :
    Calls Try.prog 55 #[.pointer (some ⟨pm, 0, none⟩), .int .i64 a] w fun e w' => e = .returned (.pointer none) ∧ w = w' := by
  have hp := hm.ptr
  have hn := hm.n2
  clear hm
  have hh : a < 0 ∨ (¬ a < 0 ∧ 16 * n ≤ a) := by omega
  clear h
  rcases hh with h | ⟨h, h'⟩
  all_goals
    go_enter Try.func55, Try.ntmps55
    go_wp2
    go_ret
    exact ⟨rfl, rfl⟩

theorem read_yes (pm bk n : Nat) (W : Nat → Int) (a : Int) (w : World) (hm : MemIn w pm bk n W) (h0 : 0 ≤ a) (h1 : a < 16 * n) :
    Calls Try.prog 33 #[.pointer (some ⟨pm, 0, none⟩), .int .i64 a] w fun e w' => e = .returned (.tuple #[.int .u64 (W a.toNat), .int .i64 0]) ∧ w = w' := by
  have hc := hm.cell a.toNat (by omega)
  go_enter Try.func33, Try.ntmps33
  go_wp2_with (go_at_call 55; refine (at_yes pm bk n W _ _ hm h0 h1).mono ?_; rintro e w' ⟨rfl, rfl⟩)
  go_ret2
  exact ⟨rfl, rfl⟩

theorem read_no (pm bk n : Nat) (W : Nat → Int) (a : Int) (w : World) (hm : MemIn w pm bk n W) (h : ¬ (0 ≤ a ∧ a < 16 * n)) :
    Calls Try.prog 33 #[.pointer (some ⟨pm, 0, none⟩), .int .i64 a] w fun e w' => e = .returned (.tuple #[.int .u64 0, .int .i64 1]) ∧ w = w' := by
  go_enter Try.func33, Try.ntmps33
  go_wp2_with (go_at_call 55; refine (at_no pm bk n W _ _ hm h).mono ?_; rintro e w' ⟨rfl, rfl⟩)
  go_ret2
  exact ⟨rfl, rfl⟩

/-- The words with another one at a place. -/
def setW (W : Nat → Int) (a : Nat) (x : Int) : Nat → Int := fun i => if i = a then x else W i

theorem MemIn.store {w : World} {pm bk n : Nat} {W : Nat → Int} (hm : MemIn w pm bk n W) (a : Nat) (ha : a < 16 * n) (x : Int) (hx : 0 ≤ x) (hx' : x < 18446744073709551616) :
    MemIn (w.setCell ⟨bk, a, none⟩ (.int .u64 x)) pm bk n (setW W a x) ∧ Touch (· = bk) w (w.setCell ⟨bk, a, none⟩ (.int .u64 x)) := by
  have ht : Touch (· = bk) w (w.setCell ⟨bk, a, none⟩ (.int .u64 x)) := Touch.setCell (S := (· = bk)) (Touch.refl _ _) (Or.inl rfl) _
  refine ⟨⟨?_, ?_, ?_, ?_, ?_, ?_, ?_, hm.ne, hm.n1, hm.n2⟩, ht⟩
  · rw [cell_of_heap (ht.block pm hm.pm_lt hm.ne)]; exact hm.ptr
  · intro i hi
    unfold setW
    by_cases e : i = a
    · subst e
      have := hm.cell i hi
      rw [if_pos rfl]
      simp [go_sem, this]
    · rw [if_neg e, ← hm.cell i hi]
      have : (⟨bk, i, none⟩ : Addr) ≠ ⟨bk, a, none⟩ := by simp [e]
      simp [go_sem, e, this]
  · intro i hi; simpa [go_sem] using hm.free i hi
  · intro i; unfold setW; split; exact hx; exact hm.lo i
  · intro i; unfold setW; split; exact hx'; exact hm.hi i
  · exact Nat.lt_of_lt_of_le hm.pm_lt ht.size
  · exact Nat.lt_of_lt_of_le hm.bk_lt ht.size

theorem write_yes (pm bk n : Nat) (W : Nat → Int) (a x : Int) (w : World) (hm : MemIn w pm bk n W) (h0 : 0 ≤ a) (h1 : a < 16 * n) (hx : 0 ≤ x) (hx' : x < 18446744073709551616) :
    Calls Try.prog 21 #[.pointer (some ⟨pm, 0, none⟩), .int .i64 a, .int .u64 x] w fun e w' => e = .returned (.int .i64 0) ∧ MemIn w' pm bk n (setW W a.toNat x) ∧ Touch (· = bk) w w' := by
  have hc := hm.cell a.toNat (by omega)
  have hf := hm.free a.toNat (by omega)
  have hs := hm.store a.toNat (by omega) x hx hx'
  go_enter Try.func21, Try.ntmps21
  go_wp2_with (go_at_call 55; refine (at_yes pm bk n W _ _ hm h0 h1).mono ?_; rintro e w' ⟨rfl, rfl⟩)
  go_ret
  exact ⟨rfl, hs⟩

theorem write_no (pm bk n : Nat) (W : Nat → Int) (a x : Int) (w : World) (hm : MemIn w pm bk n W) (h : ¬ (0 ≤ a ∧ a < 16 * n)) :
    Calls Try.prog 21 #[.pointer (some ⟨pm, 0, none⟩), .int .i64 a, .int .u64 x] w fun e w' => e = .returned (.int .i64 1) ∧ w = w' := by
  go_enter Try.func21, Try.ntmps21
  go_wp2_with (go_at_call 55; refine (at_no pm bk n W _ _ hm h).mono ?_; rintro e w' ⟨rfl, rfl⟩)
  go_ret
  exact ⟨rfl, rfl⟩

theorem info16 : (Try.prog.info? 99).map (fun i => (i.zero, i.size, i.bytes)) = some (some (.agg #[.int .u64 0, .int .u64 0, .int .u64 0, .int .u64 0, .int .u64 0, .int .u64 0, .int .u64 0, .int .u64 0, .int .u64 0, .int .u64 0, .int .u64 0, .int .u64 0, .int .u64 0, .int .u64 0, .int .u64 0, .int .u64 0]), 16, 128) := by kernel_rfl

theorem made_zero (z : Array Value) (v : Value) (m : Nat) (hz : 0 < z.size) (h : ∀ k, k < z.size → z[k]! = v) (i : Nat) (hi : i < m) : (madeCells z m)[i]? = some v := by
  unfold madeCells
  simp only [Array.getElem?_map, Array.getElem?_range, hi, if_true, Option.map_some]
  rw [h _ (Nat.mod_lt _ hz)]

theorem new_no (n : Int) (w : World) (h : ¬ (1 ≤ n ∧ n ≤ 256)) :
    Calls Try.prog 23 #[.int .i64 n] w fun e w' => e = .returned (.tuple #[.pointer none, .int .i64 1]) ∧ w = w' := by
  have hh : n < 1 ∨ (¬ n < 1 ∧ 256 < n) := by omega
  clear h
  rcases hh with h | ⟨h, h'⟩
  all_goals
    go_enter Try.func23, Try.ntmps23
    go_wp2
    go_ret2
    exact ⟨rfl, rfl⟩

set_option maxRecDepth 100000 in
theorem new_yes (n : Int) (w : World) (h1 : 1 ≤ n) (h2 : n ≤ 256) :
    Calls Try.prog 23 #[.int .i64 n] w fun e w' => ∃ pm bk, e = .returned (.tuple #[.pointer (some ⟨pm, 0, none⟩), .int .i64 0]) ∧ MemIn w' pm bk n.toNat (fun _ => 0) ∧ w.heap.size ≤ pm ∧ w.heap.size ≤ bk ∧ Below w.heap.size w w' := by
  obtain ⟨i0, hi, hzz⟩ := Option.map_eq_some_iff.1 info16
  simp only [Prod.mk.injEq] at hzz
  obtain ⟨hz, hs, hb⟩ := hzz
  have hmk : ∀ w, (Instr.makeSlice 86 (.int .i64 n) (.int .i64 n)).run Try.prog w = _ := fun w => run_make (P := Try.prog) w 86 99 i0 _ Try.underlying86 hi hz .i64 .i64 n n (by omega) (by omega) (by rw [hb]; omega) (by omega)
  rw [hs] at hmk
  go_enter Try.func23, Try.ntmps23
  go_wp2
  go_ret2
  refine ⟨w.heap.size + 1, w.heap.size, rfl, ?_, by omega, by omega, by repeat (first | exact Below.refl _ _ | refine Below.alloc ?_ (by simp <;> omega) _)⟩
  refine ⟨?_, ?_, ?_, fun _ => by omega, fun _ => by omega, by simp, by simp; omega, by omega, by omega, by omega⟩
  · simp [go_sem]
  · intro i hi
    rw [World.cell?_alloc_past _ _ _ (by simp), World.cell?_alloc_at _ _ _ _ rfl]
    exact made_zero _ _ _ (by decide) (fun k hk => by
      have : k = 0 ∨ k = 1 ∨ k = 2 ∨ k = 3 ∨ k = 4 ∨ k = 5 ∨ k = 6 ∨ k = 7 ∨ k = 8 ∨ k = 9 ∨ k = 10 ∨ k = 11 ∨ k = 12 ∨ k = 13 ∨ k = 14 ∨ k = 15 := by simp at hk; omega
      rcases this with rfl | rfl | rfl | rfl | rfl | rfl | rfl | rfl | rfl | rfl | rfl | rfl | rfl | rfl | rfl | rfl <;> rfl) i (by omega)
  · intro i hi
    rw [World.frozen?_alloc_past _ _ _ (by simp), World.frozen?_alloc_at _ _ _ _ rfl]

end Go.Proofs.Ytoiiblajgkdabaa

namespace Go.Proofs.Ytoiiblajgkdabaa
set_option linter.unusedSimpArgs false
set_option linter.unusedVariables false
set_option maxRecDepth 100000
open Go.RowKit
set_option maxHeartbeats 1000000

/-- The reference's memory of n frames: its struct at pr, its words W in the block br. -/
structure RefIn (w : World) (pr br n : Nat) (W : Nat → Int) : Prop where
  ptr : w.cell? ⟨pr, 0, none⟩ = some (.slice (some ⟨br, 0, none⟩) (16 * n) (16 * n))
  cell : ∀ i, i < 16 * n → w.cell? ⟨br, i, none⟩ = some (.int .u64 (W i))
  free : ∀ i, i < 16 * n → w.frozen? ⟨br, i, none⟩ = false
  lo : ∀ i, 0 ≤ W i
  hi : ∀ i, W i < 18446744073709551616
  pr_lt : pr < w.heap.size
  br_lt : br < w.heap.size
  ne : pr ≠ br
  n1 : 1 ≤ n
  n2 : n ≤ 256

theorem RefIn.touch {w w' : World} {pm bk n : Nat} {W : Nat → Int} (h : RefIn w pm bk n W) {S : Nat → Prop} (t : Touch S w w') (h1 : ¬ S pm) (h2 : ¬ S bk) : RefIn w' pm bk n W :=
  ⟨by rw [cell_of_heap (t.block pm h.pr_lt h1)]; exact h.ptr, fun i hi => by rw [cell_of_heap (t.block bk h.br_lt h2)]; exact h.cell i hi,
   fun i hi => by rw [frozen_of_heap (t.block bk h.br_lt h2)]; exact h.free i hi, h.lo, h.hi, Nat.lt_of_lt_of_le h.pr_lt t.size, Nat.lt_of_lt_of_le h.br_lt t.size, h.ne, h.n1, h.n2⟩
theorem RefIn.below {w w' : World} {pm bk n : Nat} {W : Nat → Int} (h : RefIn w pm bk n W) (t : Below w.heap.size w w') : RefIn w' pm bk n W :=
  h.touch (S := fun _ => False) (Touch.of_below t) id id

theorem RefIn.store {w : World} {pm bk n : Nat} {W : Nat → Int} (hm : RefIn w pm bk n W) (a : Nat) (ha : a < 16 * n) (x : Int) (hx : 0 ≤ x) (hx' : x < 18446744073709551616) :
    RefIn (w.setCell ⟨bk, a, none⟩ (.int .u64 x)) pm bk n (setW W a x) ∧ Touch (· = bk) w (w.setCell ⟨bk, a, none⟩ (.int .u64 x)) := by
  have ht : Touch (· = bk) w (w.setCell ⟨bk, a, none⟩ (.int .u64 x)) := Touch.setCell (S := (· = bk)) (Touch.refl _ _) (Or.inl rfl) _
  refine ⟨⟨?_, ?_, ?_, ?_, ?_, ?_, ?_, hm.ne, hm.n1, hm.n2⟩, ht⟩
  · rw [cell_of_heap (ht.block pm hm.pr_lt hm.ne)]; exact hm.ptr
  · intro i hi
    unfold setW
    by_cases e : i = a
    · subst e
      have := hm.cell i hi
      rw [if_pos rfl]
      simp [go_sem, this]
    · rw [if_neg e, ← hm.cell i hi]
      have : (⟨bk, i, none⟩ : Addr) ≠ ⟨bk, a, none⟩ := by simp [e]
      simp [go_sem, e, this]
  · intro i hi; simpa [go_sem] using hm.free i hi
  · intro i; unfold setW; split; exact hx; exact hm.lo i
  · intro i; unfold setW; split; exact hx'; exact hm.hi i
  · exact Nat.lt_of_lt_of_le hm.pr_lt ht.size
  · exact Nat.lt_of_lt_of_le hm.br_lt ht.size

theorem infoU64 : (Try.prog.info? 35).map (fun i => (i.zero, i.size, i.bytes)) = some (some (.int .u64 0), 1, 8) := by kernel_rfl

theorem r02_new_no (n : Int) (w : World) (h : ¬ (1 ≤ n ∧ n ≤ 256)) :
    Calls Try.prog 24 #[.int .i64 n] w fun e w' => e = .returned (.tuple #[.pointer none, .int .i64 1]) ∧ w = w' := by
  have hh : n < 1 ∨ (¬ n < 1 ∧ 256 < n) := by omega
  clear h
  rcases hh with h | ⟨h, h'⟩
  all_goals
    go_enter Try.func24, Try.ntmps24
    go_wp2
    go_ret2
    exact ⟨rfl, rfl⟩

set_option maxRecDepth 100000 in
theorem r02_new_yes (n : Int) (w : World) (h1 : 1 ≤ n) (h2 : n ≤ 256) :
    Calls Try.prog 24 #[.int .i64 n] w fun e w' => ∃ pm bk, e = .returned (.tuple #[.pointer (some ⟨pm, 0, none⟩), .int .i64 0]) ∧ RefIn w' pm bk n.toNat (fun _ => 0) ∧ w.heap.size ≤ pm ∧ w.heap.size ≤ bk ∧ Below w.heap.size w w' := by
  obtain ⟨i0, hi, hz, hs, hb⟩ := info_parts infoU64
  have hmk : ∀ w, (Instr.makeSlice 100 (.int .i64 (16 * n)) (.int .i64 (16 * n))).run Try.prog w = _ := fun w => run_make (P := Try.prog) w 100 35 i0 _ Try.underlying100 hi hz .i64 .i64 (16 * n) (16 * n) (by omega) (by omega) (by rw [hb]; omega) (by omega)
  rw [hs] at hmk
  go_enter Try.func24, Try.ntmps24
  go_wp2
  go_ret2
  have e16 : (16 * n).toNat = 16 * n.toNat := by omega
  refine ⟨w.heap.size + 1, w.heap.size, rfl, ?_, by omega, by omega, by repeat (first | exact Below.refl _ _ | refine Below.alloc ?_ (by simp <;> omega) _)⟩
  refine ⟨?_, ?_, ?_, fun _ => by omega, fun _ => by omega, by simp, by simp; omega, by omega, by omega, by omega⟩
  · simp [go_sem, e16]
  · intro i hi
    rw [World.cell?_alloc_past _ _ _ (by simp), World.cell?_alloc_at _ _ _ _ rfl]
    exact made_zero _ _ _ (by decide) (fun k hk => by
      have : k = 0 := by simp at hk; omega
      subst this; rfl) i (by omega)
  · intro i hi
    rw [World.frozen?_alloc_past _ _ _ (by simp), World.frozen?_alloc_at _ _ _ _ rfl]

theorem r02_has_yes (pm bk n : Nat) (W : Nat → Int) (f : Int) (w : World) (hm : RefIn w pm bk n W) (h0 : 0 ≤ f) (h1 : f < n) :
    Calls Try.prog 81 #[.pointer (some ⟨pm, 0, none⟩), .int .i64 f] w fun e w' => e = .returned (.bool true) ∧ w = w' := by
  have hp := hm.ptr
  have hn := hm.n2
  clear hm
  go_enter Try.func81, Try.ntmps81
  go_wp2
  go_ret
  exact ⟨by simp <;> omega, rfl⟩
theorem r02_has_no (pm bk n : Nat) (W : Nat → Int) (f : Int) (w : World) (hm : RefIn w pm bk n W) (h : ¬ (0 ≤ f ∧ f < n)) :
    Calls Try.prog 81 #[.pointer (some ⟨pm, 0, none⟩), .int .i64 f] w fun e w' => e = .returned (.bool false) ∧ w = w' := by
  have hp := hm.ptr
  have hn := hm.n2
  clear hm
  have hh : f < 0 ∨ (¬ f < 0 ∧ n ≤ f) := by omega
  clear h
  rcases hh with h | ⟨h, h'⟩
  all_goals
    go_enter Try.func81, Try.ntmps81
    go_wp2
    go_ret
    exact ⟨by simp <;> omega, rfl⟩

theorem r02_write_yes (pm bk n : Nat) (W : Nat → Int) (a x : Int) (w : World) (hm : RefIn w pm bk n W) (h0 : 0 ≤ a) (h1 : a < 16 * n) (hx : 0 ≤ x) (hx' : x < 18446744073709551616) :
    Calls Try.prog 29 #[.pointer (some ⟨pm, 0, none⟩), .int .i64 a, .int .u64 x] w fun e w' => e = .returned (.int .i64 0) ∧ RefIn w' pm bk n (setW W a.toNat x) ∧ Touch (· = bk) w w' := by
  have hp := hm.ptr
  have hn := hm.n2
  have hc := hm.cell a.toNat (by omega)
  have hf := hm.free a.toNat (by omega)
  have hs := hm.store a.toNat (by omega) x hx hx'
  go_enter Try.func29, Try.ntmps29
  go_wp2
  go_ret
  exact ⟨rfl, hs⟩
theorem r02_write_no (pm bk n : Nat) (W : Nat → Int) (a x : Int) (w : World) (hm : RefIn w pm bk n W) (h : ¬ (0 ≤ a ∧ a < 16 * n)) :
    Calls Try.prog 29 #[.pointer (some ⟨pm, 0, none⟩), .int .i64 a, .int .u64 x] w fun e w' => e = .returned (.int .i64 1) ∧ w = w' := by
  have hp := hm.ptr
  have hn := hm.n2
  clear hm
  have hh : a < 0 ∨ (¬ a < 0 ∧ 16 * n ≤ a) := by omega
  clear h
  rcases hh with h | ⟨h, h'⟩
  all_goals
    go_enter Try.func29, Try.ntmps29
    go_wp2
    go_ret
    exact ⟨rfl, rfl⟩

/-- Are so many words from a place on noughts? -/
def zerosB (W : Nat → Int) (a k : Nat) : Bool := (List.range k).all fun i => decide (W (a + i) = 0)
theorem zerosB_iff (W : Nat → Int) (a k : Nat) : zerosB W a k = true ↔ ∀ i, i < k → W (a + i) = 0 := by simp [zerosB]
/-- Is a table blank? -/
def blankB (W : Nat → Int) (n : Nat) (f : Int) : Bool := decide (0 ≤ f) && decide (f < n) && zerosB W (16 * f).toNat 16

theorem blank_false (W : Nat → Int) (n : Nat) (f : Int) (h : ¬ (0 ≤ f ∧ f < n)) : blankB W n f = false := by
  by_cases h0 : 0 ≤ f
  · have h1 : ¬ f < n := fun h1 => h ⟨h0, h1⟩
    simp [blankB, h1]
  · simp [blankB, h0]

end Go.Proofs.Ytoiiblajgkdabaa

namespace Go.Proofs.Ytoiiblajgkdabaa
set_option linter.unusedSimpArgs false
set_option linter.unusedVariables false
set_option maxRecDepth 100000
open Go.RowKit
set_option maxHeartbeats 4000000

theorem heap_ltm {w w' : World} {k : Nat} (e : w'.heap[k]? = w.heap[k]?) (h : k < w.heap.size) : k < w'.heap.size := by
  rcases Nat.lt_or_ge k w'.heap.size with h' | h'
  · exact h'
  · rw [Array.getElem?_eq_none h', Array.getElem?_eq_getElem h] at e; cases e
def memP (pm n : Nat) (W : Nat → Int) : HP := exP fun bk : Nat => ownP (fun k => k = pm ∨ k = bk) (fun w => MemIn w pm bk n W)
theorem loc_mem (pm bk n : Nat) (W : Nat → Int) : Loc (fun k => k = pm ∨ k = bk) (fun w => MemIn w pm bk n W) := fun w w' h e =>
  ⟨(cell_of_heap (e pm (Or.inl rfl)) _).trans h.ptr, fun i hi => (cell_of_heap (e bk (Or.inr rfl)) _).trans (h.cell i hi), fun i hi => (frozen_of_heap (e bk (Or.inr rfl)) _).trans (h.free i hi), h.lo, h.hi, heap_ltm (e pm (Or.inl rfl)) h.pm_lt, heap_ltm (e bk (Or.inr rfl)) h.bk_lt, h.ne, h.n1, h.n2⟩
theorem has_mem (pm n : Nat) (W : Nat → Int) : Has (memP pm n W) pm := has_ex fun _ => has_own (Or.inl rfl)
theorem Sat.mem {g w : World} {pm n : Nat} {W : Nat → Int} {R : HP} (h : Sat g w (memP pm n W * R)) :
    ∃ bk, MemIn w pm bk n W ∧ (∀ b, Has R b → pm ≠ b ∧ bk ≠ b) ∧ ∀ w' W', Touch (· = bk) w w' → MemIn w' pm bk n W' → Sat g w' (memP pm n W' * R) := by
  obtain ⟨bk, h⟩ := h.ex
  have hi : MemIn w pm bk n W := h.inv
  refine ⟨bk, hi, fun b hb => ⟨fun e => h.free hb (Or.inl e.symm), fun e => h.free hb (Or.inr e.symm)⟩, fun w' W' t m => Sat.ex' bk (h.touch (t.mono fun k _ hk => Or.inr hk) m (loc_mem _ _ _ _) (fun k hk => Or.inl hk) (fun k hk => ?_))⟩
  rcases hk with rfl | rfl
  · exact m.pm_lt
  · exact m.bk_lt
theorem Sat.mem_new {g w w' : World} {pm bk n : Nat} {W : Nat → Int} {R : HP} (h : Sat g w R) (b : Below w.heap.size w w') (m : MemIn w' pm bk n W) (h1 : w.heap.size ≤ pm) (h2 : w.heap.size ≤ bk) : Sat g w' (memP pm n W * R) :=
  Sat.ex' bk (h.new b m (loc_mem _ _ _ _) (fun k hk => by rcases hk with rfl | rfl; exact h1; exact h2) (fun k hk => by rcases hk with rfl | rfl; exact m.pm_lt; exact m.bk_lt))

/-! ### The reference's memory -/
def refP (pm n : Nat) (W : Nat → Int) : HP := exP fun bk : Nat => ownP (fun k => k = pm ∨ k = bk) (fun w => RefIn w pm bk n W)
theorem loc_ref (pm bk n : Nat) (W : Nat → Int) : Loc (fun k => k = pm ∨ k = bk) (fun w => RefIn w pm bk n W) := fun w w' h e =>
  ⟨(cell_of_heap (e pm (Or.inl rfl)) _).trans h.ptr, fun i hi => (cell_of_heap (e bk (Or.inr rfl)) _).trans (h.cell i hi), fun i hi => (frozen_of_heap (e bk (Or.inr rfl)) _).trans (h.free i hi), h.lo, h.hi, heap_ltm (e pm (Or.inl rfl)) h.pr_lt, heap_ltm (e bk (Or.inr rfl)) h.br_lt, h.ne, h.n1, h.n2⟩
theorem has_ref (pm n : Nat) (W : Nat → Int) : Has (refP pm n W) pm := has_ex fun _ => has_own (Or.inl rfl)
theorem Sat.ref {g w : World} {pm n : Nat} {W : Nat → Int} {R : HP} (h : Sat g w (refP pm n W * R)) :
    ∃ bk, RefIn w pm bk n W ∧ (∀ b, Has R b → pm ≠ b ∧ bk ≠ b) ∧ ∀ w' W', Touch (· = bk) w w' → RefIn w' pm bk n W' → Sat g w' (refP pm n W' * R) := by
  obtain ⟨bk, h⟩ := h.ex
  have hi : RefIn w pm bk n W := h.inv
  refine ⟨bk, hi, fun b hb => ⟨fun e => h.free hb (Or.inl e.symm), fun e => h.free hb (Or.inr e.symm)⟩, fun w' W' t m => Sat.ex' bk (h.touch (t.mono fun k _ hk => Or.inr hk) m (loc_ref _ _ _ _) (fun k hk => Or.inl hk) (fun k hk => ?_))⟩
  rcases hk with rfl | rfl
  · exact m.pr_lt
  · exact m.br_lt
theorem Sat.ref_new {g w w' : World} {pm bk n : Nat} {W : Nat → Int} {R : HP} (h : Sat g w R) (b : Below w.heap.size w w') (m : RefIn w' pm bk n W) (h1 : w.heap.size ≤ pm) (h2 : w.heap.size ≤ bk) : Sat g w' (refP pm n W * R) :=
  Sat.ex' bk (h.new b m (loc_ref _ _ _ _) (fun k hk => by rcases hk with rfl | rfl; exact h1; exact h2) (fun k hk => by rcases hk with rfl | rfl; exact m.pr_lt; exact m.br_lt))

/-! ### The buffer -/

end Go.Proofs.Ytoiiblajgkdabaa
