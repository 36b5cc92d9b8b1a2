/- What the functions of package memory return and write, by walks over their text: a memory lies in two blocks, its struct's and its words'. -/
import Derived.Test.YtoiiblajgkdabaaBase
namespace Go.Proofs.Ytoiiblajgkdabaa
set_option linter.unusedSimpArgs false
set_option linter.unusedVariables false
set_option maxRecDepth 100000
open Go.RowKit
set_option maxHeartbeats 1000000

/-- A memory of n frames of words: its struct at pm, its words W in the block bk. -/
structure MemIn (w : World) (pm bk n : Nat) (W : Nat → Int) : Prop where
  ptr : w.cell? ⟨pm, 0, none⟩ = some (.slice (some ⟨bk, 0, none⟩) n n)
  cell : ∀ i, i < 16 * n → w.cell? ⟨bk, i, none⟩ = some (.int .u64 (W i))
  free : ∀ i, i < 16 * n → w.frozen? ⟨bk, i, none⟩ = false
  lo : ∀ i, 0 ≤ W i
  hi : ∀ i, W i < 18446744073709551616
  pm_lt : pm < w.heap.size
  bk_lt : bk < w.heap.size
  ne : pm ≠ bk
  n1 : 1 ≤ n
  n2 : n ≤ 256


theorem MemIn.touch {w w' : World} {pm bk n : Nat} {W : Nat → Int} (h : MemIn w pm bk n W) {S : Nat → Prop} (t : Touch S w w') (h1 : ¬ S pm) (h2 : ¬ S bk) : MemIn w' pm bk n W :=
  ⟨by rw [cell_of_heap (t.block pm h.pm_lt h1)]; exact h.ptr, fun i hi => by rw [cell_of_heap (t.block bk h.bk_lt h2)]; exact h.cell i hi,
   fun i hi => by rw [frozen_of_heap (t.block bk h.bk_lt h2)]; exact h.free i hi, h.lo, h.hi, Nat.lt_of_lt_of_le h.pm_lt t.size, Nat.lt_of_lt_of_le h.bk_lt t.size, h.ne, h.n1, h.n2⟩
theorem MemIn.below {w w' : World} {pm bk n : Nat} {W : Nat → Int} (h : MemIn w pm bk n W) (t : Below w.heap.size w w') : MemIn w' pm bk n W :=
  h.touch (S := fun _ => False) (Touch.of_below t) id id

theorem frames_any (pm bk n : Nat) (W : Nat → Int) (w : World) (hm : MemIn w pm bk n W) :
    Calls Try.prog 15 #[.pointer (some ⟨pm, 0, none⟩)] w fun e w' => e = .returned (.int .i64 n) ∧ w = w' := by
  have h1 := hm.ptr
  clear hm
  go_enter Try.func15, Try.ntmps15
  go_wp2
  go_ret
  exact ⟨rfl, rfl⟩

theorem at_yes (pm bk n : Nat) (W : Nat → Int) (a : Int) (w : World) (hm : MemIn w pm bk n W) (h0 : 0 ≤ a) (h1 : a < 16 * n) :
    Calls Try.prog 55 #[.pointer (some ⟨pm, 0, none⟩), .int .i64 a] w fun e w' => e = .returned (.pointer (some ⟨bk, a.toNat, none⟩)) ∧ w = w' := by
  have hp := hm.ptr
  have hn := hm.n2
  clear hm
  have H : Hid ((a / 16).toNat * 16 + (a % 16).toNat = a.toNat) := by show _ = _; omega
  go_enter Try.func55, Try.ntmps55
  go_wp2
  go_ret
  exact ⟨by rw [← H.out]; rfl, rfl⟩

theorem at_no (pm bk n : Nat) (W : Nat → Int) (a : Int) (w : World) (hm : MemIn w pm bk n W) (h : ¬ (0 ≤ a ∧ a < 16 * n)) :
    Calls Try.prog 55 #[.pointer (some ⟨pm, 0, none⟩), .int .i64 a] w fun e w' => e = .returned (.pointer none) ∧ w = w' := by
  have hp := hm.ptr
  have hn := hm.n2
  clear hm
  have hh : a < 0 ∨ (¬ a < 0 ∧ 16 * n ≤ a) := by omega
  clear h
  rcases hh with h | ⟨h, h'⟩
  all_goals
    go_enter Try.func55, Try.ntmps55
    go_wp2
    go_ret
    exact ⟨rfl, rfl⟩

theorem read_yes (pm bk n : Nat) (W : Nat → Int) (a : Int) (w : World) (hm : MemIn w pm bk n W) (h0 : 0 ≤ a) (h1 : a < 16 * n) :
    Calls Try.prog 33 #[.pointer (some ⟨pm, 0, none⟩), .int .i64 a] w fun e w' => e = .returned (.tuple #[.int .u64 (W a.toNat), .int .i64 0]) ∧ w = w' := by
  have hc := hm.cell a.toNat (by omega)
  go_enter Try.func33, Try.ntmps33
  go_wp2_with (go_at_call 55; refine (at_yes pm bk n W _ _ hm h0 h1).mono ?_; rintro e w' ⟨rfl, rfl⟩)
  go_ret2
  exact ⟨rfl, rfl⟩

theorem read_no (pm bk n : Nat) (W : Nat → Int) (a : Int) (w : World) (hm : MemIn w pm bk n W) (h : ¬ (0 ≤ a ∧ a < 16 * n)) :
    Calls Try.prog 33 #[.pointer (some ⟨pm, 0, none⟩), .int .i64 a] w fun e w' => e = .returned (.tuple #[.int .u64 0, .int .i64 1]) ∧ w = w' := by
  go_enter Try.func33, Try.ntmps33
  go_wp2_with (go_at_call 55; refine (at_no pm bk n W _ _ hm h).mono ?_; rintro e w' ⟨rfl, rfl⟩)
  go_ret2
  exact ⟨rfl, rfl⟩

/-- The words with another one at a place. -/
def setW (W : Nat → Int) (a : Nat) (x : Int) : Nat → Int := fun i => if i = a then x else W i

theorem MemIn.store {w : World} {pm bk n : Nat} {W : Nat → Int} (hm : MemIn w pm bk n W) (a : Nat) (ha : a < 16 * n) (x : Int) (hx : 0 ≤ x) (hx' : x < 18446744073709551616) :
    MemIn (w.setCell ⟨bk, a, none⟩ (.int .u64 x)) pm bk n (setW W a x) ∧ Touch (· = bk) w (w.setCell ⟨bk, a, none⟩ (.int .u64 x)) := by
  have ht : Touch (· = bk) w (w.setCell ⟨bk, a, none⟩ (.int .u64 x)) := Touch.setCell (S := (· = bk)) (Touch.refl _ _) (Or.inl rfl) _
  refine ⟨⟨?_, ?_, ?_, ?_, ?_, ?_, ?_, hm.ne, hm.n1, hm.n2⟩, ht⟩
  · rw [cell_of_heap (ht.block pm hm.pm_lt hm.ne)]; exact hm.ptr
  · intro i hi
    unfold setW
    by_cases e : i = a
    · subst e
      have := hm.cell i hi
      rw [if_pos rfl]
      simp [go_sem, this]
    · rw [if_neg e, ← hm.cell i hi]
      have : (⟨bk, i, none⟩ : Addr) ≠ ⟨bk, a, none⟩ := by simp [e]
      simp [go_sem, e, this]
  · intro i hi; simpa [go_sem] using hm.free i hi
  · intro i; unfold setW; split; exact hx; exact hm.lo i
  · intro i; unfold setW; split; exact hx'; exact hm.hi i
  · exact Nat.lt_of_lt_of_le hm.pm_lt ht.size
  · exact Nat.lt_of_lt_of_le hm.bk_lt ht.size

theorem write_yes (pm bk n : Nat) (W : Nat → Int) (a x : Int) (w : World) (hm : MemIn w pm bk n W) (h0 : 0 ≤ a) (h1 : a < 16 * n) (hx : 0 ≤ x) (hx' : x < 18446744073709551616) :
    Calls Try.prog 21 #[.pointer (some ⟨pm, 0, none⟩), .int .i64 a, .int .u64 x] w fun e w' => e = .returned (.int .i64 0) ∧ MemIn w' pm bk n (setW W a.toNat x) ∧ Touch (· = bk) w w' := by
  have hc := hm.cell a.toNat (by omega)
  have hf := hm.free a.toNat (by omega)
  have hs := hm.store a.toNat (by omega) x hx hx'
  go_enter Try.func21, Try.ntmps21
  go_wp2_with (go_at_call 55; refine (at_yes pm bk n W _ _ hm h0 h1).mono ?_; rintro e w' ⟨rfl, rfl⟩)
  go_ret
  exact ⟨rfl, hs⟩

theorem write_no (pm bk n : Nat) (W : Nat → Int) (a x : Int) (w : World) (hm : MemIn w pm bk n W) (h : ¬ (0 ≤ a ∧ a < 16 * n)) :
    Calls Try.prog 21 #[.pointer (some ⟨pm, 0, none⟩), .int .i64 a, .int .u64 x] w fun e w' => e = .returned (.int .i64 1) ∧ w = w' := by
  go_enter Try.func21, Try.ntmps21
  go_wp2_with (go_at_call 55; refine (at_no pm bk n W _ _ hm h).mono ?_; rintro e w' ⟨rfl, rfl⟩)
  go_ret
  exact ⟨rfl, rfl⟩

theorem info16 : (Try.prog.info? 99).map (fun i => (i.zero, i.size, i.bytes)) = some (some (.agg #[.int .u64 0, .int .u64 0, .int .u64 0, .int .u64 0, .int .u64 0, .int .u64 0, .int .u64 0, .int .u64 0, .int .u64 0, .int .u64 0, .int .u64 0, .int .u64 0, .int .u64 0, .int .u64 0, .int .u64 0, .int .u64 0]), 16, 128) := by kernel_rfl

theorem made_zero (z : Array Value) (v : Value) (m : Nat) (hz : 0 < z.size) (h : ∀ k, k < z.size → z[k]! = v) (i : Nat) (hi : i < m) : (madeCells z m)[i]? = some v := by
  unfold madeCells
  simp only [Array.getElem?_map, Array.getElem?_range, hi, if_true, Option.map_some]
  rw [h _ (Nat.mod_lt _ hz)]

theorem new_no (n : Int) (w : World) (h : ¬ (1 ≤ n ∧ n ≤ 256)) :
    Calls Try.prog 23 #[.int .i64 n] w fun e w' => e = .returned (.tuple #[.pointer none, .int .i64 1]) ∧ w = w' := by
  have hh : n < 1 ∨ (¬ n < 1 ∧ 256 < n) := by omega
  clear h
  rcases hh with h | ⟨h, h'⟩
  all_goals
    go_enter Try.func23, Try.ntmps23
    go_wp2
    go_ret2
    exact ⟨rfl, rfl⟩

set_option maxRecDepth 100000 in
theorem new_yes (n : Int) (w : World) (h1 : 1 ≤ n) (h2 : n ≤ 256) :
    Calls Try.prog 23 #[.int .i64 n] w fun e w' => ∃ pm bk, e = .returned (.tuple #[.pointer (some ⟨pm, 0, none⟩), .int .i64 0]) ∧ MemIn w' pm bk n.toNat (fun _ => 0) ∧ w.heap.size ≤ pm ∧ w.heap.size ≤ bk ∧ Below w.heap.size w w' := by
  obtain ⟨i0, hi, hzz⟩ := Option.map_eq_some_iff.1 info16
  simp only [Prod.mk.injEq] at hzz
  obtain ⟨hz, hs, hb⟩ := hzz
  have hmk : ∀ w, (Instr.makeSlice 86 (.int .i64 n) (.int .i64 n)).run Try.prog w = _ := fun w => run_make (P := Try.prog) w 86 99 i0 _ Try.underlying86 hi hz .i64 .i64 n n (by omega) (by omega) (by rw [hb]; omega) (by omega)
  rw [hs] at hmk
  go_enter Try.func23, Try.ntmps23
  go_wp2
  go_ret2
  refine ⟨w.heap.size + 1, w.heap.size, rfl, ?_, by omega, by omega, by repeat (first | exact Below.refl _ _ | refine Below.alloc ?_ (by simp <;> omega) _)⟩
  refine ⟨?_, ?_, ?_, fun _ => by omega, fun _ => by omega, by simp, by simp; omega, by omega, by omega, by omega⟩
  · simp [go_sem]
  · intro i hi
    rw [World.cell?_alloc_past _ _ _ (by simp), World.cell?_alloc_at _ _ _ _ rfl]
    exact made_zero _ _ _ (by decide) (fun k hk => by
      have : k = 0 ∨ k = 1 ∨ k = 2 ∨ k = 3 ∨ k = 4 ∨ k = 5 ∨ k = 6 ∨ k = 7 ∨ k = 8 ∨ k = 9 ∨ k = 10 ∨ k = 11 ∨ k = 12 ∨ k = 13 ∨ k = 14 ∨ k = 15 := by simp at hk; omega
      rcases this with rfl | rfl | rfl | rfl | rfl | rfl | rfl | rfl | rfl | rfl | rfl | rfl | rfl | rfl | rfl | rfl <;> rfl) i (by omega)
  · intro i hi
    rw [World.frozen?_alloc_past _ _ _ (by simp), World.frozen?_alloc_at _ _ _ _ rfl]

end Go.Proofs.Ytoiiblajgkdabaa
