/- What the reference of layer 2 (memory) returns and writes, by walks over its text. -/
import Derived.Test.YtoiiblajgkdabaaMem
namespace Go.Proofs.Ytoiiblajgkdabaa
set_option linter.unusedSimpArgs false
set_option linter.unusedVariables false
set_option maxRecDepth 100000
open Go.RowKit
set_option maxHeartbeats 1000000

/-- The reference's memory of n frames: its struct at pr, its words W in the block br. -/
structure RefIn (w : World) (pr br n : Nat) (W : Nat → Int) : Prop where
  ptr : w.cell? ⟨pr, 0, none⟩ = some (.slice (some ⟨br, 0, none⟩) (16 * n) (16 * n))
  cell : ∀ i, i < 16 * n → w.cell? ⟨br, i, none⟩ = some (.int .u64 (W i))
  free : ∀ i, i < 16 * n → w.frozen? ⟨br, i, none⟩ = false
  lo : ∀ i, 0 ≤ W i
  hi : ∀ i, W i < 18446744073709551616
  pr_lt : pr < w.heap.size
  br_lt : br < w.heap.size
  ne : pr ≠ br
  n1 : 1 ≤ n
  n2 : n ≤ 256

theorem RefIn.touch {w w' : World} {pm bk n : Nat} {W : Nat → Int} (h : RefIn w pm bk n W) {S : Nat → Prop} (t : Touch S w w') (h1 : ¬ S pm) (h2 : ¬ S bk) : RefIn w' pm bk n W :=
  ⟨by rw [cell_of_heap (t.block pm h.pr_lt h1)]; exact h.ptr, fun i hi => by rw [cell_of_heap (t.block bk h.br_lt h2)]; exact h.cell i hi,
   fun i hi => by rw [frozen_of_heap (t.block bk h.br_lt h2)]; exact h.free i hi, h.lo, h.hi, Nat.lt_of_lt_of_le h.pr_lt t.size, Nat.lt_of_lt_of_le h.br_lt t.size, h.ne, h.n1, h.n2⟩
theorem RefIn.below {w w' : World} {pm bk n : Nat} {W : Nat → Int} (h : RefIn w pm bk n W) (t : Below w.heap.size w w') : RefIn w' pm bk n W :=
  h.touch (S := fun _ => False) (Touch.of_below t) id id

theorem RefIn.store {w : World} {pm bk n : Nat} {W : Nat → Int} (hm : RefIn w pm bk n W) (a : Nat) (ha : a < 16 * n) (x : Int) (hx : 0 ≤ x) (hx' : x < 18446744073709551616) :
    RefIn (w.setCell ⟨bk, a, none⟩ (.int .u64 x)) pm bk n (setW W a x) ∧ Touch (· = bk) w (w.setCell ⟨bk, a, none⟩ (.int .u64 x)) := by
  have ht : Touch (· = bk) w (w.setCell ⟨bk, a, none⟩ (.int .u64 x)) := Touch.setCell (S := (· = bk)) (Touch.refl _ _) (Or.inl rfl) _
  refine ⟨⟨?_, ?_, ?_, ?_, ?_, ?_, ?_, hm.ne, hm.n1, hm.n2⟩, ht⟩
  · rw [cell_of_heap (ht.block pm hm.pr_lt hm.ne)]; exact hm.ptr
  · intro i hi
    unfold setW
    by_cases e : i = a
    · subst e
      have := hm.cell i hi
      rw [if_pos rfl]
      simp [go_sem, this]
    · rw [if_neg e, ← hm.cell i hi]
      have : (⟨bk, i, none⟩ : Addr) ≠ ⟨bk, a, none⟩ := by simp [e]
      simp [go_sem, e, this]
  · intro i hi; simpa [go_sem] using hm.free i hi
  · intro i; unfold setW; split; exact hx; exact hm.lo i
  · intro i; unfold setW; split; exact hx'; exact hm.hi i
  · exact Nat.lt_of_lt_of_le hm.pr_lt ht.size
  · exact Nat.lt_of_lt_of_le hm.br_lt ht.size

theorem infoU64 : (Try.prog.info? 35).map (fun i => (i.zero, i.size, i.bytes)) = some (some (.int .u64 0), 1, 8) := by kernel_rfl

theorem r02_new_no (n : Int) (w : World) (h : ¬ (1 ≤ n ∧ n ≤ 256)) :
    Calls Try.prog 24 #[.int .i64 n] w fun e w' => e = .returned (.tuple #[.pointer none, .int .i64 1]) ∧ w = w' := by
  have hh : n < 1 ∨ (¬ n < 1 ∧ 256 < n) := by omega
  clear h
  rcases hh with h | ⟨h, h'⟩
  all_goals
    go_enter Try.func24, Try.ntmps24
    go_wp2
    go_ret2
    exact ⟨rfl, rfl⟩

set_option maxRecDepth 100000 in
theorem r02_new_yes (n : Int) (w : World) (h1 : 1 ≤ n) (h2 : n ≤ 256) :
    Calls Try.prog 24 #[.int .i64 n] w fun e w' => ∃ pm bk, e = .returned (.tuple #[.pointer (some ⟨pm, 0, none⟩), .int .i64 0]) ∧ RefIn w' pm bk n.toNat (fun _ => 0) ∧ w.heap.size ≤ pm ∧ w.heap.size ≤ bk ∧ Below w.heap.size w w' := by
  obtain ⟨i0, hi, hz, hs, hb⟩ := info_parts infoU64
  have hmk : ∀ w, (Instr.makeSlice 100 (.int .i64 (16 * n)) (.int .i64 (16 * n))).run Try.prog w = _ := fun w => run_make (P := Try.prog) w 100 35 i0 _ Try.underlying100 hi hz .i64 .i64 (16 * n) (16 * n) (by omega) (by omega) (by rw [hb]; omega) (by omega)
  rw [hs] at hmk
  go_enter Try.func24, Try.ntmps24
  go_wp2
  go_ret2
  have e16 : (16 * n).toNat = 16 * n.toNat := by omega
  refine ⟨w.heap.size + 1, w.heap.size, rfl, ?_, by omega, by omega, by repeat (first | exact Below.refl _ _ | refine Below.alloc ?_ (by simp <;> omega) _)⟩
  refine ⟨?_, ?_, ?_, fun _ => by omega, fun _ => by omega, by simp, by simp; omega, by omega, by omega, by omega⟩
  · simp [go_sem, e16]
  · intro i hi
    rw [World.cell?_alloc_past _ _ _ (by simp), World.cell?_alloc_at _ _ _ _ rfl]
    exact made_zero _ _ _ (by decide) (fun k hk => by
      have : k = 0 := by simp at hk; omega
      subst this; rfl) i (by omega)
  · intro i hi
    rw [World.frozen?_alloc_past _ _ _ (by simp), World.frozen?_alloc_at _ _ _ _ rfl]

theorem r02_has_yes (pm bk n : Nat) (W : Nat → Int) (f : Int) (w : World) (hm : RefIn w pm bk n W) (h0 : 0 ≤ f) (h1 : f < n) :
    Calls Try.prog 81 #[.pointer (some ⟨pm, 0, none⟩), .int .i64 f] w fun e w' => e = .returned (.bool true) ∧ w = w' := by
  have hp := hm.ptr
  have hn := hm.n2
  clear hm
  go_enter Try.func81, Try.ntmps81
  go_wp2
  go_ret
  exact ⟨by simp <;> omega, rfl⟩
theorem r02_has_no (pm bk n : Nat) (W : Nat → Int) (f : Int) (w : World) (hm : RefIn w pm bk n W) (h : ¬ (0 ≤ f ∧ f < n)) :
    Calls Try.prog 81 #[.pointer (some ⟨pm, 0, none⟩), .int .i64 f] w fun e w' => e = .returned (.bool false) ∧ w = w' := by
  have hp := hm.ptr
  have hn := hm.n2
  clear hm
  have hh : f < 0 ∨ (¬ f < 0 ∧ n ≤ f) := by omega
  clear h
  rcases hh with h | ⟨h, h'⟩
  all_goals
    go_enter Try.func81, Try.ntmps81
    go_wp2
    go_ret
    exact ⟨by simp <;> omega, rfl⟩

theorem r02_write_yes (pm bk n : Nat) (W : Nat → Int) (a x : Int) (w : World) (hm : RefIn w pm bk n W) (h0 : 0 ≤ a) (h1 : a < 16 * n) (hx : 0 ≤ x) (hx' : x < 18446744073709551616) :
    Calls Try.prog 29 #[.pointer (some ⟨pm, 0, none⟩), .int .i64 a, .int .u64 x] w fun e w' => e = .returned (.int .i64 0) ∧ RefIn w' pm bk n (setW W a.toNat x) ∧ Touch (· = bk) w w' := by
  have hp := hm.ptr
  have hn := hm.n2
  have hc := hm.cell a.toNat (by omega)
  have hf := hm.free a.toNat (by omega)
  have hs := hm.store a.toNat (by omega) x hx hx'
  go_enter Try.func29, Try.ntmps29
  go_wp2
  go_ret
  exact ⟨rfl, hs⟩
theorem r02_write_no (pm bk n : Nat) (W : Nat → Int) (a x : Int) (w : World) (hm : RefIn w pm bk n W) (h : ¬ (0 ≤ a ∧ a < 16 * n)) :
    Calls Try.prog 29 #[.pointer (some ⟨pm, 0, none⟩), .int .i64 a, .int .u64 x] w fun e w' => e = .returned (.int .i64 1) ∧ w = w' := by
  have hp := hm.ptr
  have hn := hm.n2
  clear hm
  have hh : a < 0 ∨ (¬ a < 0 ∧ 16 * n ≤ a) := by omega
  clear h
  rcases hh with h | ⟨h, h'⟩
  all_goals
    go_enter Try.func29, Try.ntmps29
    go_wp2
    go_ret
    exact ⟨rfl, rfl⟩

/-- Are so many words from a place on noughts? -/
def zerosB (W : Nat → Int) (a k : Nat) : Bool := (List.range k).all fun i => decide (W (a + i) = 0)
theorem zerosB_iff (W : Nat → Int) (a k : Nat) : zerosB W a k = true ↔ ∀ i, i < k → W (a + i) = 0 := by simp [zerosB]
/-- Is a table blank? -/
def blankB (W : Nat → Int) (n : Nat) (f : Int) : Bool := decide (0 ≤ f) && decide (f < n) && zerosB W (16 * f).toNat 16

theorem blank_false (W : Nat → Int) (n : Nat) (f : Int) (h : ¬ (0 ≤ f ∧ f < n)) : blankB W n f = false := by
  by_cases h0 : 0 ≤ f
  · have h1 : ¬ f < n := fun h1 => h ⟨h0, h1⟩
    simp [blankB, h1]
  · simp [blankB, h0]

end Go.Proofs.Ytoiiblajgkdabaa
