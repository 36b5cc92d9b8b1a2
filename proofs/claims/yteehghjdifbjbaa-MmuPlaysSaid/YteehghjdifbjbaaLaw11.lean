/- What the helpers of package trunnionlaw11 make and return: by walks over their text. -/
import Derived.Test.YteehghjdifbjbaaLoads
namespace Go.Proofs.Yteehghjdifbjbaa
set_option linter.unusedSimpArgs false
set_option linter.unusedVariables false
set_option maxRecDepth 100000
open Go.RowKit
set_option maxHeartbeats 4000000

def TlbNew (g w : World) (R : HP) (e : Ending) (w' : World) : Prop := ∃ pb, e = .returned (.pointer (some ⟨pb, 0, none⟩)) ∧ Sat g w' (tlbP pb (fun _ => none) * R)
theorem s_tlbnew (g w : World) (R : HP) (h : Sat g w R) : Calls Try.prog 32 #[] w (TlbNew g w R) := by
  go_enter Try.func32, Try.ntmps32
  go_wp2_with (fail)
  go_ret
  refine ⟨w.heap.size, rfl, h.tlb_new (by repeat (first | with_reducible exact Below.refl _ _ | with_reducible assumption | with_reducible refine below_drewN ?_ _ | with_reducible refine Below.drew ?_ | with_reducible refine Below.setCell ?_ (by first | omega | (simp <;> omega)) _ | with_reducible refine Below.alloc ?_ (by first | omega | (simp <;> omega)) _)) ⟨fun i hi _ => ?_, fun i l hi hl => (by cases hl), fun i hi => ?_, by simp⟩ (Nat.le_refl _)⟩
  · rcases eight hi with h | h | h | h | h | h | h | h <;> subst h <;> simp [go_sem]
  · rcases eight hi with h | h | h | h | h | h | h | h <;> subst h <;> simp [go_sem]

def UnitNew (pm pb : Nat) (g w : World) (R : HP) (e : Ending) (w' : World) : Prop := ∃ pu, e = .returned (.tuple #[.pointer (some ⟨pu, 0, none⟩), .int .i64 0]) ∧ Sat g w' (unitP pu pm pb 0 0 * R)
theorem s_mmunew (pm pb : Nat) (g w : World) (R : HP) (h : Sat g w R) : Calls Try.prog 33 #[.pointer (some ⟨pm, 0, none⟩), .pointer (some ⟨pb, 0, none⟩)] w (UnitNew pm pb g w R) := by
  go_enter Try.func33, Try.ntmps33
  go_wp2_with (fail)
  go_ret2
  exact ⟨w.heap.size, rfl, h.unit_new (by repeat (first | with_reducible exact Below.refl _ _ | with_reducible assumption | with_reducible refine below_drewN ?_ _ | with_reducible refine Below.drew ?_ | with_reducible refine Below.setCell ?_ (by first | omega | (simp <;> omega)) _ | with_reducible refine Below.alloc ?_ (by first | omega | (simp <;> omega)) _)) ⟨by simp [go_sem], by simp [go_sem], by simp [go_sem], by simp [go_sem], by simp [go_sem], by simp [go_sem], by simp⟩ (Nat.le_refl _)⟩

def MemNew (n : Nat) (g w : World) (R : HP) (e : Ending) (w' : World) : Prop := ∃ pm, e = .returned (.tuple #[.pointer (some ⟨pm, 0, none⟩), .int .i64 0]) ∧ Sat g w' (memP pm n (fun _ => 0) * R)
theorem s_memnew (n : Nat) (g w : World) (R : HP) (h : Sat g w R) (h1 : 1 ≤ n) (h2 : n ≤ 256) : Calls Try.prog 29 #[.int .i64 n] w (MemNew n g w R) :=
  (new_yes n w (by omega) (by omega)).mono fun e w' ⟨pm, bk, e1, hm, b1, b2, hb⟩ => ⟨pm, e1, h.mem_new hb hm b1 b2⟩
def RefNew (n : Nat) (g w : World) (R : HP) (e : Ending) (w' : World) : Prop := ∃ pm, e = .returned (.tuple #[.pointer (some ⟨pm, 0, none⟩), .int .i64 0]) ∧ Sat g w' (refP pm n (fun _ => 0) * R)
theorem s_refnew (n : Nat) (g w : World) (R : HP) (h : Sat g w R) (h1 : 1 ≤ n) (h2 : n ≤ 256) : Calls Try.prog 9 #[.int .i64 n] w (RefNew n g w R) :=
  (r02_new_yes n w (by omega) (by omega)).mono fun e w' ⟨pm, bk, e1, hm, b1, b2, hb⟩ => ⟨pm, e1, h.ref_new hb hm b1 b2⟩

/-- The words behind parts. -/
def ptW : Nat → Int := setW (setW (setW (setW (fun _ => 0) 0 261) 16 517) 32 1027) 33 1281
theorem parts_ptW : putW (putW (putW (putW (fun _ => 0) 8 0 0 true false true 1) 8 1 0 true false true 2) 8 2 0 true true false 4) 8 2 1 true false false 5 = ptW := by
  have i0 : inT 8 0 0 ∧ rightB true false true 1 = true := by decide
  have i1 : inT 8 1 0 ∧ rightB true false true 2 = true := by decide
  have i2 : inT 8 2 0 ∧ rightB true true false 4 = true := by decide
  have i3 : inT 8 2 1 ∧ rightB true false false 5 = true := by decide
  unfold putW
  rw [if_pos i0, if_pos i1, if_pos i2, if_pos i3]
  rfl
theorem s_parts (pm : Nat) (g w : World) (R : HP) (h : Sat g w (memP pm 8 (fun _ => 0) * R)) :
    Calls Try.prog 42 #[.pointer (some ⟨pm, 0, none⟩)] w fun e w' => e = .returned (.tuple #[]) ∧ Sat g w' (memP pm 8 ptW * R) := by
  go_enter Try.func42, Try.ntmps42
  go_wp2_with (fail)
  refine (s_put pm 8 _ 0 0 true false true 1 g _ R h).mono ?_
  rintro e w1 ⟨rfl, h1⟩
  go_wp2_with (fail)
  refine (s_put pm 8 _ 1 0 true false true 2 g _ R h1).mono ?_
  rintro e w2 ⟨rfl, h2⟩
  go_wp2_with (fail)
  refine (s_put pm 8 _ 2 0 true true false 4 g _ R h2).mono ?_
  rintro e w3 ⟨rfl, h3⟩
  go_wp2_with (fail)
  refine (s_put pm 8 _ 2 1 true false false 5 g _ R h3).mono ?_
  rintro e w4 ⟨rfl, h4⟩
  rw [parts_ptW] at h4
  go_wp2_with (fail)
  go_end0
  exact ⟨rfl, h4⟩

def L0 : Nat → Option Ln := fun _ => none
def Begun (g : World) (R : HP) (e : Ending) (w' : World) : Prop := ∃ pm pb pu, e = .returned (.tuple #[.pointer (some ⟨pm, 0, none⟩), .pointer (some ⟨pb, 0, none⟩), .pointer (some ⟨pu, 0, none⟩)]) ∧ Sat g w' (unitP pu pm pb 0 1 * (memP pm 8 ptW * (tlbP pb L0 * R)))
theorem s_begun (g w : World) (R : HP) (h : Sat g w R) : Calls Try.prog 8 #[] w (Begun g R) := by
  have hu8 : useB 8 0 1 = true := by decide
  go_enter Try.func8, Try.ntmps8
  go_wp2_with (fail)
  refine (s_memnew 8 g _ R h (by omega) (by omega)).mono ?_
  rintro e w1 ⟨pm, rfl, h1⟩
  go_wp2_with (fail)
  refine (s_tlbnew g _ _ h1).mono ?_
  rintro e w2 ⟨pb, rfl, h2⟩
  go_wp2_with (fail)
  refine (s_mmunew pm pb g _ _ h2).mono ?_
  rintro e w3 ⟨pu, rfl, h3⟩
  go_wp2_with (fail)
  refine (s_parts pm g _ _ h3.up3).mono ?_
  rintro e w4 ⟨rfl, h4⟩
  go_wp2_with (fail)
  refine (s_use pu pm pb 8 0 0 0 1 ptW g _ _ h4.swap).mono ?_
  rintro e w5 ⟨rfl, h5⟩
  simp only [hu8, if_true] at h5 ⊢
  go_wp2_with (fail)
  go_ret3
  exact ⟨pm, pb, pu, rfl, h5⟩

theorem s_lines (pb : Nat) (L : Nat → Option Ln) (g w : World) (R : HP) (h : Sat g w (tlbP pb L * R)) : Calls Try.prog 26 #[.pointer (some ⟨pb, 0, none⟩)] w (LinesPost w w.heap.size (linesK L 8)) := by
  obtain ⟨lb, ht, _⟩ := h.tlb
  exact tlb_lines pb lb L w ht

/-! ### awake -/
def aW1 : Nat → Int := sW 8 ptW L0 0 1 3 7 0
def aL1 : Nat → Option Ln := fTlb 8 ptW L0 0 1 3 0
def aL2 : Nat → Option Ln := fTlb 8 aW1 aL1 0 1 3 0
def aW3 : Nat → Int := sW 8 aW1 aL2 0 1 20 7 0
def aL3 : Nat → Option Ln := fTlb 8 aW1 aL2 0 1 20 0
def aL4 : Nat → Option Ln := fTlb 8 aW3 aL3 0 1 40 0
theorem aw_1 : lE 8 ptW L0 0 1 3 true 0 = 0 := by decide +kernel
theorem aw_2 : lX 8 aW1 aL1 0 1 3 0 = 7 ∧ lE 8 aW1 aL1 0 1 3 false 0 = 0 := by decide +kernel
theorem aw_3 : aW1 67 = 7 := by decide +kernel
theorem aw_4 : lE 8 aW1 aL2 0 1 20 true 0 = 9 := by decide +kernel
theorem aw_5 : lE 8 aW3 aL3 0 1 40 false 0 = 10 := by decide +kernel
theorem aw_6 : (linesK aL4 8).length = 2 := by decide +kernel

theorem s_awake (g w : World) (R : HP) (h : Sat g w R) : Calls Try.prog 7 #[] w fun e w' => e = .returned (.bool true) ∧ Sat g w' R := by
  have A1 := Lib.hid aw_1
  have A2 := Lib.hid aw_2
  have A3 := Lib.hid aw_3
  have A4 := Lib.hid aw_4
  have A5 := Lib.hid aw_5
  have A6 := Lib.hid aw_6
  go_enter Try.func7, Try.ntmps7
  go_wp2_with (fail)
  refine (s_begun g _ R h).mono ?_
  rintro e w1 ⟨pm, pb, pu, rfl, h1⟩
  go_wp2_with (fail)
  refine (s_store pu pm pb 8 0 1 ptW L0 3 7 0 g _ R h1 (by omega) (by omega) (by omega) (by omega)).mono ?_
  rintro e w2 ⟨rfl, h2⟩
  rw [A1.out]
  go_wp2_with (fail)
  refine (s_load pu pm pb 8 0 1 aW1 aL1 3 0 g _ R h2 (by omega) (by omega)).mono ?_
  rintro e w3 ⟨rfl, h3⟩
  rw [A2.out.1, A2.out.2]
  go_wp2_with (fail)
  refine (s_read pm 8 aW1 67 g _ _ h3.swap (by omega) (by omega)).mono ?_
  rintro e w4 ⟨rfl, rfl⟩
  rw [show aW1 (Int.toNat 67) = 7 from A3.out]
  go_wp2_with (fail)
  refine (s_store pu pm pb 8 0 1 aW1 aL2 20 7 0 g _ R h3 (by omega) (by omega) (by omega) (by omega)).mono ?_
  rintro e w5 ⟨rfl, h5⟩
  rw [A4.out]
  go_wp2_with (fail)
  refine (s_load pu pm pb 8 0 1 aW3 aL3 40 0 g _ R h5 (by omega) (by omega)).mono ?_
  rintro e w6 ⟨rfl, h6⟩
  rw [A5.out]
  go_wp2_with (fail)
  refine (s_lines pb aL4 g _ _ h6.up3).mono ?_
  rintro e w7 ⟨v, rfl, hown, hb7⟩
  obtain ⟨a, cap, rfl⟩ := own_slice hown
  rw [A6.out]
  go_wp2_with (fail)
  go_ret
  exact ⟨rfl, ((h6.below hb7).right.right).right⟩

end Go.Proofs.Yteehghjdifbjbaa
