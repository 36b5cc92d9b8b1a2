/- What the functions of package memory return and write, by walks over their text: a memory lies in two blocks, its struct's and its words'. -/
import Derived.Test.YtnodcmmifbcbiaaEntry
namespace Go.Proofs.Ytnodcmmifbcbiaa
set_option linter.unusedSimpArgs false
set_option linter.unusedVariables false
open Go.RowKit
set_option maxHeartbeats 1000000

/-- What was there is as it was, but for the blocks of S; new blocks may have come. -/
structure Touch (S : Nat → Prop) (w w' : World) : Prop where
  os : w'.os = w.os
  tape : w'.tape = w.tape
  output : w'.output = w.output
  size : w.heap.size ≤ w'.heap.size
  block : ∀ k, k < w.heap.size → ¬ S k → w'.heap[k]? = w.heap[k]?

theorem Touch.refl (S : Nat → Prop) (w : World) : Touch S w w := ⟨rfl, rfl, rfl, Nat.le_refl _, fun _ _ _ => rfl⟩
theorem Touch.trans {S : Nat → Prop} {a b c : World} (h : Touch S a b) (k : Touch S b c) : Touch S a c :=
  ⟨k.os.trans h.os, k.tape.trans h.tape, k.output.trans h.output, Nat.le_trans h.size k.size, fun i hi hs => (k.block i (Nat.lt_of_lt_of_le hi h.size) hs).trans (h.block i hi hs)⟩
theorem Touch.mono {S T : Nat → Prop} {a b : World} (h : Touch S a b) (hs : ∀ k, k < a.heap.size → S k → T k) : Touch T a b :=
  ⟨h.os, h.tape, h.output, h.size, fun i hi ht => h.block i hi (fun s => ht (hs i hi s))⟩
theorem Touch.of_below {S : Nat → Prop} {a b : World} (h : Below a.heap.size a b) : Touch S a b :=
  ⟨h.os, h.tape, h.output, h.size, fun i hi _ => h.block i hi⟩
theorem Touch.below {S : Nat → Prop} {a b : World} (h : Touch S a b) {B : Nat} (hB : B ≤ a.heap.size) (hs : ∀ k, k < B → ¬ S k) : Below B a b :=
  ⟨h.os, h.tape, h.output, h.size, fun i hi => h.block i (by omega) (hs i hi)⟩
theorem Touch.drewN {S : Nat → Prop} {a b : World} (h : Touch S a b) (n : Nat) : Touch S a (b.drewN n) := ⟨h.os, h.tape, h.output, h.size, h.block⟩
theorem Touch.drew {S : Nat → Prop} {a b : World} (h : Touch S a b) : Touch S a b.drew := ⟨h.os, h.tape, h.output, h.size, h.block⟩
theorem Touch.alloc {S : Nat → Prop} {a b : World} (h : Touch S a b) (o : Obj) : Touch S a (b.alloc o) :=
  h.trans ⟨rfl, rfl, rfl, by simp, fun k hk _ => Below.heap_alloc _ _ _ hk⟩
theorem Touch.setCell {S : Nat → Prop} {a b : World} (h : Touch S a b) {p : Addr} (hp : S p.block ∨ a.heap.size ≤ p.block) (u : Value) : Touch S a (b.setCell p u) :=
  ⟨h.os, h.tape, h.output, by have := h.size; simp [World.setCell]; exact this, fun k hk hs => by
    rw [Below.heap_setCell _ _ _ _ (fun e => by subst e; rcases hp with hp | hp; exact hs hp; omega)]
    exact h.block k hk hs⟩

/-- A memory of n frames of words: its struct at pm, its words W in the block bk. -/
structure MemIn (w : World) (pm bk n : Nat) (W : Nat → Int) : Prop where
  ptr : w.cell? ⟨pm, 0, none⟩ = some (.slice (some ⟨bk, 0, none⟩) n n)
  cell : ∀ i, i < 16 * n → w.cell? ⟨bk, i, none⟩ = some (.int .u64 (W i))
  free : ∀ i, i < 16 * n → w.frozen? ⟨bk, i, none⟩ = false
  lo : ∀ i, 0 ≤ W i
  hi : ∀ i, W i < 18446744073709551616
  pm_lt : pm < w.heap.size
  bk_lt : bk < w.heap.size
  ne : pm ≠ bk
  n1 : 1 ≤ n
  n2 : n ≤ 256

theorem cell_of_heap {w w' : World} {b : Nat} (h : w'.heap[b]? = w.heap[b]?) (o : Nat) : w'.cell? ⟨b, o, none⟩ = w.cell? ⟨b, o, none⟩ := World.cell?_of_block (w := w) (a := ⟨b, o, none⟩) h
theorem frozen_of_heap {w w' : World} {b : Nat} (h : w'.heap[b]? = w.heap[b]?) (o : Nat) : w'.frozen? ⟨b, o, none⟩ = w.frozen? ⟨b, o, none⟩ := World.frozen?_of_block (w := w) (a := ⟨b, o, none⟩) h

theorem keepT {S : Nat → Prop} {w w' : World} (ht : Touch S w w') {b o : Nat} {v : Value} (h : b < w.heap.size) (hs : ¬ S b) (hc : w.cell? ⟨b, o, none⟩ = some v) : w'.cell? ⟨b, o, none⟩ = some v := by
  rw [cell_of_heap (ht.block b h hs)]; exact hc

theorem MemIn.touch {w w' : World} {pm bk n : Nat} {W : Nat → Int} (h : MemIn w pm bk n W) {S : Nat → Prop} (t : Touch S w w') (h1 : ¬ S pm) (h2 : ¬ S bk) : MemIn w' pm bk n W :=
  ⟨by rw [cell_of_heap (t.block pm h.pm_lt h1)]; exact h.ptr, fun i hi => by rw [cell_of_heap (t.block bk h.bk_lt h2)]; exact h.cell i hi,
   fun i hi => by rw [frozen_of_heap (t.block bk h.bk_lt h2)]; exact h.free i hi, h.lo, h.hi, Nat.lt_of_lt_of_le h.pm_lt t.size, Nat.lt_of_lt_of_le h.bk_lt t.size, h.ne, h.n1, h.n2⟩
theorem MemIn.below {w w' : World} {pm bk n : Nat} {W : Nat → Int} (h : MemIn w pm bk n W) (t : Below w.heap.size w w') : MemIn w' pm bk n W :=
  h.touch (S := fun _ => False) (Touch.of_below t) id id

theorem frames_any (pm bk n : Nat) (W : Nat → Int) (w : World) (hm : MemIn w pm bk n W) :
    Calls Try.prog 49 #[.pointer (some ⟨pm, 0, none⟩)] w fun e w' => e = .returned (.int .i64 n) ∧ w = w' := by
  have h1 := hm.ptr
  clear hm
  go_enter Try.func49, Try.ntmps49
  go_wp2
  go_ret
  exact ⟨rfl, rfl⟩

theorem at_yes (pm bk n : Nat) (W : Nat → Int) (a : Int) (w : World) (hm : MemIn w pm bk n W) (h0 : 0 ≤ a) (h1 : a < 16 * n) :
    Calls Try.prog 44 #[.pointer (some ⟨pm, 0, none⟩), .int .i64 a] w fun e w' => e = .returned (.pointer (some ⟨bk, a.toNat, none⟩)) ∧ w = w' := by
  have hp := hm.ptr
  have hn := hm.n2
  clear hm
  have H : Hid ((a / 16).toNat * 16 + (a % 16).toNat = a.toNat) := by show _ = _; omega
  go_enter Try.func44, Try.ntmps44
  go_wp2
  go_ret
  exact ⟨by rw [← H.out]; rfl, rfl⟩

theorem at_no (pm bk n : Nat) (W : Nat → Int) (a : Int) (w : World) (hm : MemIn w pm bk n W) (h : ¬ (0 ≤ a ∧ a < 16 * n)) :
    Calls Try.prog 44 #[.pointer (some ⟨pm, 0, none⟩), .int .i64 a] w fun e w' => e = .returned (.pointer none) ∧ w = w' := by
  have hp := hm.ptr
  have hn := hm.n2
  clear hm
  have hh : a < 0 ∨ (¬ a < 0 ∧ 16 * n ≤ a) := by omega
  clear h
  rcases hh with h | ⟨h, h'⟩
  all_goals
    go_enter Try.func44, Try.ntmps44
    go_wp2
    go_ret
    exact ⟨rfl, rfl⟩

theorem read_yes (pm bk n : Nat) (W : Nat → Int) (a : Int) (w : World) (hm : MemIn w pm bk n W) (h0 : 0 ≤ a) (h1 : a < 16 * n) :
    Calls Try.prog 46 #[.pointer (some ⟨pm, 0, none⟩), .int .i64 a] w fun e w' => e = .returned (.tuple #[.int .u64 (W a.toNat), .int .i64 0]) ∧ w = w' := by
  have hc := hm.cell a.toNat (by omega)
  go_enter Try.func46, Try.ntmps46
  go_wp2_with (go_at_call 44; refine (at_yes pm bk n W _ _ hm h0 h1).mono ?_; rintro e w' ⟨rfl, rfl⟩)
  go_ret2
  exact ⟨rfl, rfl⟩

theorem read_no (pm bk n : Nat) (W : Nat → Int) (a : Int) (w : World) (hm : MemIn w pm bk n W) (h : ¬ (0 ≤ a ∧ a < 16 * n)) :
    Calls Try.prog 46 #[.pointer (some ⟨pm, 0, none⟩), .int .i64 a] w fun e w' => e = .returned (.tuple #[.int .u64 0, .int .i64 1]) ∧ w = w' := by
  go_enter Try.func46, Try.ntmps46
  go_wp2_with (go_at_call 44; refine (at_no pm bk n W _ _ hm h).mono ?_; rintro e w' ⟨rfl, rfl⟩)
  go_ret2
  exact ⟨rfl, rfl⟩

/-- The words with another one at a place. -/
def setW (W : Nat → Int) (a : Nat) (x : Int) : Nat → Int := fun i => if i = a then x else W i

theorem MemIn.store {w : World} {pm bk n : Nat} {W : Nat → Int} (hm : MemIn w pm bk n W) (a : Nat) (ha : a < 16 * n) (x : Int) (hx : 0 ≤ x) (hx' : x < 18446744073709551616) :
    MemIn (w.setCell ⟨bk, a, none⟩ (.int .u64 x)) pm bk n (setW W a x) ∧ Touch (· = bk) w (w.setCell ⟨bk, a, none⟩ (.int .u64 x)) := by
  have ht : Touch (· = bk) w (w.setCell ⟨bk, a, none⟩ (.int .u64 x)) := Touch.setCell (S := (· = bk)) (Touch.refl _ _) (Or.inl rfl) _
  refine ⟨⟨?_, ?_, ?_, ?_, ?_, ?_, ?_, hm.ne, hm.n1, hm.n2⟩, ht⟩
  · rw [cell_of_heap (ht.block pm hm.pm_lt hm.ne)]; exact hm.ptr
  · intro i hi
    unfold setW
    by_cases e : i = a
    · subst e
      have := hm.cell i hi
      rw [if_pos rfl]
      simp [go_sem, this]
    · rw [if_neg e, ← hm.cell i hi]
      have : (⟨bk, i, none⟩ : Addr) ≠ ⟨bk, a, none⟩ := by simp [e]
      simp [go_sem, e, this]
  · intro i hi; simpa [go_sem] using hm.free i hi
  · intro i; unfold setW; split; exact hx; exact hm.lo i
  · intro i; unfold setW; split; exact hx'; exact hm.hi i
  · exact Nat.lt_of_lt_of_le hm.pm_lt ht.size
  · exact Nat.lt_of_lt_of_le hm.bk_lt ht.size

theorem write_yes (pm bk n : Nat) (W : Nat → Int) (a x : Int) (w : World) (hm : MemIn w pm bk n W) (h0 : 0 ≤ a) (h1 : a < 16 * n) (hx : 0 ≤ x) (hx' : x < 18446744073709551616) :
    Calls Try.prog 27 #[.pointer (some ⟨pm, 0, none⟩), .int .i64 a, .int .u64 x] w fun e w' => e = .returned (.int .i64 0) ∧ MemIn w' pm bk n (setW W a.toNat x) ∧ Touch (· = bk) w w' := by
  have hc := hm.cell a.toNat (by omega)
  have hf := hm.free a.toNat (by omega)
  have hs := hm.store a.toNat (by omega) x hx hx'
  go_enter Try.func27, Try.ntmps27
  go_wp2_with (go_at_call 44; refine (at_yes pm bk n W _ _ hm h0 h1).mono ?_; rintro e w' ⟨rfl, rfl⟩)
  go_ret
  exact ⟨rfl, hs⟩

theorem write_no (pm bk n : Nat) (W : Nat → Int) (a x : Int) (w : World) (hm : MemIn w pm bk n W) (h : ¬ (0 ≤ a ∧ a < 16 * n)) :
    Calls Try.prog 27 #[.pointer (some ⟨pm, 0, none⟩), .int .i64 a, .int .u64 x] w fun e w' => e = .returned (.int .i64 1) ∧ w = w' := by
  go_enter Try.func27, Try.ntmps27
  go_wp2_with (go_at_call 44; refine (at_no pm bk n W _ _ hm h).mono ?_; rintro e w' ⟨rfl, rfl⟩)
  go_ret
  exact ⟨rfl, rfl⟩

theorem info16 : (Try.prog.info? 92).map (fun i => (i.zero, i.size, i.bytes)) = some (some (.agg #[.int .u64 0, .int .u64 0, .int .u64 0, .int .u64 0, .int .u64 0, .int .u64 0, .int .u64 0, .int .u64 0, .int .u64 0, .int .u64 0, .int .u64 0, .int .u64 0, .int .u64 0, .int .u64 0, .int .u64 0, .int .u64 0]), 16, 128) := by kernel_rfl

theorem made_zero (z : Array Value) (v : Value) (m : Nat) (hz : 0 < z.size) (h : ∀ k, k < z.size → z[k]! = v) (i : Nat) (hi : i < m) : (madeCells z m)[i]? = some v := by
  unfold madeCells
  simp only [Array.getElem?_map, Array.getElem?_range, hi, if_true, Option.map_some]
  rw [h _ (Nat.mod_lt _ hz)]

theorem new_no (n : Int) (w : World) (h : ¬ (1 ≤ n ∧ n ≤ 256)) :
    Calls Try.prog 23 #[.int .i64 n] w fun e w' => e = .returned (.tuple #[.pointer none, .int .i64 1]) ∧ w = w' := by
  have hh : n < 1 ∨ (¬ n < 1 ∧ 256 < n) := by omega
  clear h
  rcases hh with h | ⟨h, h'⟩
  all_goals
    go_enter Try.func23, Try.ntmps23
    go_wp2
    go_ret2
    exact ⟨rfl, rfl⟩

theorem new_yes (n : Int) (w : World) (h1 : 1 ≤ n) (h2 : n ≤ 256) :
    Calls Try.prog 23 #[.int .i64 n] w fun e w' => ∃ pm bk, e = .returned (.tuple #[.pointer (some ⟨pm, 0, none⟩), .int .i64 0]) ∧ MemIn w' pm bk n.toNat (fun _ => 0) ∧ w.heap.size ≤ pm ∧ w.heap.size ≤ bk ∧ Below w.heap.size w w' := by
  obtain ⟨i0, hi, hzz⟩ := Option.map_eq_some_iff.1 info16
  simp only [Prod.mk.injEq] at hzz
  obtain ⟨hz, hs, hb⟩ := hzz
  have hmk : ∀ w, (Instr.makeSlice 82 (.int .i64 n) (.int .i64 n)).run Try.prog w = _ := fun w => run_make (P := Try.prog) w 82 92 i0 _ Try.underlying82 hi hz .i64 .i64 n n (by omega) (by omega) (by rw [hb]; omega) (by omega)
  rw [hs] at hmk
  go_enter Try.func23, Try.ntmps23
  go_wp2
  go_ret2
  refine ⟨w.heap.size + 1, w.heap.size, rfl, ?_, by omega, by omega, by repeat (first | exact Below.refl _ _ | refine Below.alloc ?_ (by simp <;> omega) _)⟩
  refine ⟨?_, ?_, ?_, fun _ => by omega, fun _ => by omega, by simp, by simp; omega, by omega, by omega, by omega⟩
  · simp [go_sem]
  · intro i hi
    rw [World.cell?_alloc_past _ _ _ (by simp), World.cell?_alloc_at _ _ _ _ rfl]
    exact made_zero _ _ _ (by decide) (fun k hk => by
      have : k = 0 ∨ k = 1 ∨ k = 2 ∨ k = 3 ∨ k = 4 ∨ k = 5 ∨ k = 6 ∨ k = 7 ∨ k = 8 ∨ k = 9 ∨ k = 10 ∨ k = 11 ∨ k = 12 ∨ k = 13 ∨ k = 14 ∨ k = 15 := by simp at hk; omega
      rcases this with rfl | rfl | rfl | rfl | rfl | rfl | rfl | rfl | rfl | rfl | rfl | rfl | rfl | rfl | rfl | rfl <;> rfl) i (by omega)
  · intro i hi
    rw [World.frozen?_alloc_past _ _ _ (by simp), World.frozen?_alloc_at _ _ _ _ rfl]

end Go.Proofs.Ytnodcmmifbcbiaa
