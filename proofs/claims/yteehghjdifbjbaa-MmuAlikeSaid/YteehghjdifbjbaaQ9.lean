/- Part 9 of the proofs: Law11, BudPlain, MapB, SeqI, SeqI2. -/
import Derived.Test.YteehghjdifbjbaaQ8
import Derived.Test.YteehghjdifbjbaaQ1
import Derived.WideKeyRuns
import Derived.Maps.RangeRun
import Derived.Lib.Hide
import Derived.Test.YteehghjdifbjbaaShelf
import Derived.Test.YteehghjdifbjbaaInsI
import Derived.Shelf.Spec.SlicesInsertGrow
import Derived.Deep.Upon
namespace Go.Proofs.Yteehghjdifbjbaa
set_option linter.unusedSimpArgs false
set_option linter.unusedVariables false
set_option maxRecDepth 100000
open Go.RowKit
set_option maxHeartbeats 4000000

def TlbNew (g w : World) (R : HP) (e : Ending) (w' : World) : Prop := ∃ pb, e = .returned (.pointer (some ⟨pb, 0, none⟩)) ∧ Sat g w' (tlbP pb (fun _ => none) * R)
theorem s_tlbnew (g w : World) (R : HP) (h : Sat g w R) : Calls Try.prog 32 #[] w (TlbNew g w R) := by
  go_enter Try.func32, Try.ntmps32
  go_wp2_with (fail)
  go_ret
  refine ⟨w.heap.size, rfl, h.tlb_new (by repeat (first | with_reducible exact Below.refl _ _ | with_reducible assumption | with_reducible refine below_drewN ?_ _ | with_reducible refine Below.drew ?_ | with_reducible refine Below.setCell ?_ (by first | omega | (simp <;> omega)) _ | with_reducible refine Below.alloc ?_ (by first | omega | (simp <;> omega)) _)) ⟨fun i hi _ => ?_, fun i l hi hl => (by cases hl), fun i hi => ?_, by simp⟩ (Nat.le_refl _)⟩
  · rcases eight hi with h | h | h | h | h | h | h | h <;> subst h <;> simp [go_sem]
  · rcases eight hi with h | h | h | h | h | h | h | h <;> subst h <;> simp [go_sem]

def UnitNew (pm pb : Nat) (g w : World) (R : HP) (e : Ending) (w' : World) : Prop := ∃ pu, e = .returned (.tuple #[.pointer (some ⟨pu, 0, none⟩), .int .i64 0]) ∧ Sat g w' (unitP pu pm pb 0 0 * R)
theorem s_mmunew (pm pb : Nat) (g w : World) (R : HP) (h : Sat g w R) : Calls Try.prog 33 #[.pointer (some ⟨pm, 0, none⟩), .pointer (some ⟨pb, 0, none⟩)] w (UnitNew pm pb g w R) := by
  go_enter Try.func33, Try.ntmps33
  go_wp2_with (fail)
  go_ret2
  exact ⟨w.heap.size, rfl, h.unit_new (by repeat (first | with_reducible exact Below.refl _ _ | with_reducible assumption | with_reducible refine below_drewN ?_ _ | with_reducible refine Below.drew ?_ | with_reducible refine Below.setCell ?_ (by first | omega | (simp <;> omega)) _ | with_reducible refine Below.alloc ?_ (by first | omega | (simp <;> omega)) _)) ⟨by simp [go_sem], by simp [go_sem], by simp [go_sem], by simp [go_sem], by simp [go_sem], by simp [go_sem], by simp⟩ (Nat.le_refl _)⟩

def MemNew (n : Nat) (g w : World) (R : HP) (e : Ending) (w' : World) : Prop := ∃ pm, e = .returned (.tuple #[.pointer (some ⟨pm, 0, none⟩), .int .i64 0]) ∧ Sat g w' (memP pm n (fun _ => 0) * R)
theorem s_memnew (n : Nat) (g w : World) (R : HP) (h : Sat g w R) (h1 : 1 ≤ n) (h2 : n ≤ 256) : Calls Try.prog 29 #[.int .i64 n] w (MemNew n g w R) :=
  (new_yes n w (by omega) (by omega)).mono fun e w' ⟨pm, bk, e1, hm, b1, b2, hb⟩ => ⟨pm, e1, h.mem_new hb hm b1 b2⟩
def RefNew (n : Nat) (g w : World) (R : HP) (e : Ending) (w' : World) : Prop := ∃ pm, e = .returned (.tuple #[.pointer (some ⟨pm, 0, none⟩), .int .i64 0]) ∧ Sat g w' (refP pm n (fun _ => 0) * R)
theorem s_refnew (n : Nat) (g w : World) (R : HP) (h : Sat g w R) (h1 : 1 ≤ n) (h2 : n ≤ 256) : Calls Try.prog 9 #[.int .i64 n] w (RefNew n g w R) :=
  (r02_new_yes n w (by omega) (by omega)).mono fun e w' ⟨pm, bk, e1, hm, b1, b2, hb⟩ => ⟨pm, e1, h.ref_new hb hm b1 b2⟩

/-- The words behind parts. -/
def ptW : Nat → Int := setW (setW (setW (setW (fun _ => 0) 0 261) 16 517) 32 1027) 33 1281
theorem parts_ptW : putW (putW (putW (putW (fun _ => 0) 8 0 0 true false true 1) 8 1 0 true false true 2) 8 2 0 true true false 4) 8 2 1 true false false 5 = ptW := by
  have i0 : inT 8 0 0 ∧ rightB true false true 1 = true := by decide
  have i1 : inT 8 1 0 ∧ rightB true false true 2 = true := by decide
  have i2 : inT 8 2 0 ∧ rightB true true false 4 = true := by decide
  have i3 : inT 8 2 1 ∧ rightB true false false 5 = true := by decide
  unfold putW
  rw [if_pos i0, if_pos i1, if_pos i2, if_pos i3]
  rfl
theorem s_parts (pm : Nat) (g w : World) (R : HP) (h : Sat g w (memP pm 8 (fun _ => 0) * R)) :
    Calls Try.prog 42 #[.pointer (some ⟨pm, 0, none⟩)] w fun e w' => e = .returned (.tuple #[]) ∧ Sat g w' (memP pm 8 ptW * R) := by
  go_enter Try.func42, Try.ntmps42
  go_wp2_with (fail)
  refine (s_put pm 8 _ 0 0 true false true 1 g _ R h).mono ?_
  rintro e w1 ⟨rfl, h1⟩
  go_wp2_with (fail)
  refine (s_put pm 8 _ 1 0 true false true 2 g _ R h1).mono ?_
  rintro e w2 ⟨rfl, h2⟩
  go_wp2_with (fail)
  refine (s_put pm 8 _ 2 0 true true false 4 g _ R h2).mono ?_
  rintro e w3 ⟨rfl, h3⟩
  go_wp2_with (fail)
  refine (s_put pm 8 _ 2 1 true false false 5 g _ R h3).mono ?_
  rintro e w4 ⟨rfl, h4⟩
  rw [parts_ptW] at h4
  go_wp2_with (fail)
  go_end0
  exact ⟨rfl, h4⟩

def L0 : Nat → Option Ln := fun _ => none
def Begun (g : World) (R : HP) (e : Ending) (w' : World) : Prop := ∃ pm pb pu, e = .returned (.tuple #[.pointer (some ⟨pm, 0, none⟩), .pointer (some ⟨pb, 0, none⟩), .pointer (some ⟨pu, 0, none⟩)]) ∧ Sat g w' (unitP pu pm pb 0 1 * (memP pm 8 ptW * (tlbP pb L0 * R)))
theorem s_begun (g w : World) (R : HP) (h : Sat g w R) : Calls Try.prog 8 #[] w (Begun g R) := by
  have hu8 : useB 8 0 1 = true := by decide
  go_enter Try.func8, Try.ntmps8
  go_wp2_with (fail)
  refine (s_memnew 8 g _ R h (by omega) (by omega)).mono ?_
  rintro e w1 ⟨pm, rfl, h1⟩
  go_wp2_with (fail)
  refine (s_tlbnew g _ _ h1).mono ?_
  rintro e w2 ⟨pb, rfl, h2⟩
  go_wp2_with (fail)
  refine (s_mmunew pm pb g _ _ h2).mono ?_
  rintro e w3 ⟨pu, rfl, h3⟩
  go_wp2_with (fail)
  refine (s_parts pm g _ _ h3.up3).mono ?_
  rintro e w4 ⟨rfl, h4⟩
  go_wp2_with (fail)
  refine (s_use pu pm pb 8 0 0 0 1 ptW g _ _ h4.swap).mono ?_
  rintro e w5 ⟨rfl, h5⟩
  simp only [hu8, if_true] at h5 ⊢
  go_wp2_with (fail)
  go_ret3
  exact ⟨pm, pb, pu, rfl, h5⟩

theorem s_lines (pb : Nat) (L : Nat → Option Ln) (g w : World) (R : HP) (h : Sat g w (tlbP pb L * R)) : Calls Try.prog 26 #[.pointer (some ⟨pb, 0, none⟩)] w (LinesPost w w.heap.size (linesK L 8)) := by
  obtain ⟨lb, ht, _⟩ := h.tlb
  exact tlb_lines pb lb L w ht

/-! ### awake -/
def aW1 : Nat → Int := sW 8 ptW L0 0 1 3 7 0
def aL1 : Nat → Option Ln := fTlb 8 ptW L0 0 1 3 0
def aL2 : Nat → Option Ln := fTlb 8 aW1 aL1 0 1 3 0
def aW3 : Nat → Int := sW 8 aW1 aL2 0 1 20 7 0
def aL3 : Nat → Option Ln := fTlb 8 aW1 aL2 0 1 20 0
def aL4 : Nat → Option Ln := fTlb 8 aW3 aL3 0 1 40 0
theorem aw_1 : lE 8 ptW L0 0 1 3 true 0 = 0 := by decide +kernel
theorem aw_2 : lX 8 aW1 aL1 0 1 3 0 = 7 ∧ lE 8 aW1 aL1 0 1 3 false 0 = 0 := by decide +kernel
theorem aw_3 : aW1 67 = 7 := by decide +kernel
theorem aw_4 : lE 8 aW1 aL2 0 1 20 true 0 = 9 := by decide +kernel
theorem aw_5 : lE 8 aW3 aL3 0 1 40 false 0 = 10 := by decide +kernel
theorem aw_6 : (linesK aL4 8).length = 2 := by decide +kernel

theorem s_awake (g w : World) (R : HP) (h : Sat g w R) : Calls Try.prog 7 #[] w fun e w' => e = .returned (.bool true) ∧ Sat g w' R := by
  have A1 := Lib.hid aw_1
  have A2 := Lib.hid aw_2
  have A3 := Lib.hid aw_3
  have A4 := Lib.hid aw_4
  have A5 := Lib.hid aw_5
  have A6 := Lib.hid aw_6
  go_enter Try.func7, Try.ntmps7
  go_wp2_with (fail)
  refine (s_begun g _ R h).mono ?_
  rintro e w1 ⟨pm, pb, pu, rfl, h1⟩
  go_wp2_with (fail)
  refine (s_store pu pm pb 8 0 1 ptW L0 3 7 0 g _ R h1 (by omega) (by omega) (by omega) (by omega)).mono ?_
  rintro e w2 ⟨rfl, h2⟩
  rw [A1.out]
  go_wp2_with (fail)
  refine (s_load pu pm pb 8 0 1 aW1 aL1 3 0 g _ R h2 (by omega) (by omega)).mono ?_
  rintro e w3 ⟨rfl, h3⟩
  rw [A2.out.1, A2.out.2]
  go_wp2_with (fail)
  refine (s_read pm 8 aW1 67 g _ _ h3.swap (by omega) (by omega)).mono ?_
  rintro e w4 ⟨rfl, rfl⟩
  rw [show aW1 (Int.toNat 67) = 7 from A3.out]
  go_wp2_with (fail)
  refine (s_store pu pm pb 8 0 1 aW1 aL2 20 7 0 g _ R h3 (by omega) (by omega) (by omega) (by omega)).mono ?_
  rintro e w5 ⟨rfl, h5⟩
  rw [A4.out]
  go_wp2_with (fail)
  refine (s_load pu pm pb 8 0 1 aW3 aL3 40 0 g _ R h5 (by omega) (by omega)).mono ?_
  rintro e w6 ⟨rfl, h6⟩
  rw [A5.out]
  go_wp2_with (fail)
  refine (s_lines pb aL4 g _ _ h6.up3).mono ?_
  rintro e w7 ⟨v, rfl, hown, hb7⟩
  obtain ⟨a, cap, rfl⟩ := own_slice hown
  rw [A6.out]
  go_wp2_with (fail)
  go_ret
  exact ⟨rfl, ((h6.below hb7).right.right).right⟩

end Go.Proofs.Yteehghjdifbjbaa

namespace Go.Proofs.Yteehghjdifbjbaa
set_option linter.unusedSimpArgs false
set_option linter.unusedVariables false
set_option maxRecDepth 100000

/-- All numbers of block a of an order (those that come to a divided by its size) are in T. -/
def QFull (T : Nat → Prop) (a o : Nat) : Prop := ∀ x, x / 2 ^ o = a → T x
/-- A block that is free, and not half of one that is. -/
def QCan (T : Nat → Prop) (a o : Nat) : Prop := QFull T a o ∧ (o < 8 → ¬ QFull T (a / 2) (o + 1))
def budQ (a : Nat) : Nat := if a % 2 = 0 then a + 1 else a - 1
theorem budQ_ne (a : Nat) : budQ a ≠ a := by unfold budQ; split <;> omega
theorem budQ_half (a : Nat) : budQ a / 2 = a / 2 := by unfold budQ; split <;> omega
theorem half_two (a b : Nat) (h : b / 2 = a / 2) : b = a ∨ b = budQ a := by unfold budQ; split <;> omega
theorem div_up (x o d : Nat) : x / 2 ^ (o + d) = x / 2 ^ o / 2 ^ d := by rw [Nat.pow_add, Nat.div_div_eq_div_mul]
theorem div_one (x o : Nat) : x / 2 ^ (o + 1) = x / 2 ^ o / 2 := by rw [div_up]
theorem in_block (a o : Nat) : (a * 2 ^ o) / 2 ^ o = a := Nat.mul_div_cancel _ (Nat.two_pow_pos o)
theorem down_block (a d : Nat) : (a * 2 ^ d) / 2 ^ d = a := Nat.mul_div_cancel _ (Nat.two_pow_pos d)

/-- What is in T, and a block besides. -/
def plusQ (T : Nat → Prop) (a o : Nat) : Nat → Prop := fun x => T x ∨ x / 2 ^ o = a
def minusQ (T : Nat → Prop) (a o : Nat) : Nat → Prop := fun x => T x ∧ x / 2 ^ o ≠ a
theorem parent_full {T : Nat → Prop} {a o : Nat} (h : QFull T (a / 2) (o + 1)) : QFull T a o ∧ QFull T (budQ a) o :=
  ⟨fun x hx => h x (by rw [div_one, hx]), fun x hx => h x (by rw [div_one, hx, budQ_half])⟩
theorem full_parent {T : Nat → Prop} {a o : Nat} (h1 : QFull T a o) (h2 : QFull T (budQ a) o) : QFull T (a / 2) (o + 1) := fun x hx => by
  rw [div_one] at hx
  rcases half_two a _ hx with h | h
  · exact h1 x h
  · exact h2 x h
theorem full_up {T : Nat → Prop} {a o d b : Nat} (h : QFull T b (o + d)) (hb : a / 2 ^ d = b) : QFull T a o := fun x hx => h x (by rw [div_up, hx, hb])
theorem full_mono {T U : Nat → Prop} {a o : Nat} (h : QFull T a o) (hi : ∀ x, T x → U x) : QFull U a o := fun x hx => hi x (h x hx)

theorem can_plus {T : Nat → Prop} {a o : Nat} (ho : o ≤ 8) (hdis : ∀ x, x / 2 ^ o = a → ¬ T x) (hbud : o < 8 → ¬ QFull T (budQ a) o) (b j : Nat) (hj : j ≤ 8) :
    QCan (plusQ T a o) b j ↔ QCan T b j ∨ (b = a ∧ j = o) := by
  have hself : QFull (plusQ T a o) a o := fun x hx => Or.inr hx
  -- the half beside the block is not free with it
  have hnb : o < 8 → ¬ QFull (plusQ T a o) (budQ a) o := fun h8 hf => hbud h8 fun x hx => by
    rcases hf x hx with h | h
    · exact h
    · exact absurd (hx.symm.trans h) (budQ_ne a)
  have hnp : o < 8 → ¬ QFull (plusQ T a o) (a / 2) (o + 1) := fun h8 hf => hnb h8 (parent_full hf).2
  -- nothing that is greater than the block and holds it is free
  have hup : ∀ d c, o + d + 1 ≤ 8 → a / 2 ^ (d + 1) = c → ¬ QFull (plusQ T a o) c (o + (d + 1)) := fun d c hd hc hf => by
    refine hnp (by omega) ?_
    have : QFull (plusQ T a o) (a / 2) (o + 1) := full_up (d := d) (b := c) (by rw [show o + 1 + d = o + (d + 1) by omega]; exact hf) (by rw [← hc, Nat.pow_succ, Nat.mul_comm, Nat.div_div_eq_div_mul])
    exact this
  constructor
  · rintro ⟨h1, h2⟩
    rcases Nat.lt_trichotomy j o with hlt | rfl | hgt
    · -- smaller than the block
      obtain ⟨d, rfl⟩ : ∃ d, o = j + (d + 1) := ⟨o - j - 1, by omega⟩
      by_cases hin : b / 2 ^ (d + 1) = a
      · exfalso
        refine h2 (by omega) fun x hx => Or.inr ?_
        rw [show j + (d + 1) = j + 1 + d by omega, div_up, hx, ← hin, Nat.pow_succ, Nat.mul_comm, Nat.div_div_eq_div_mul]
      · left
        have hT : QFull T b j := fun x hx => (h1 x hx).resolve_right fun e => hin (by rw [← e, div_up x j (d + 1), hx])
        exact ⟨hT, fun h8 hf => h2 h8 (full_mono hf fun x => Or.inl)⟩
    · by_cases e : b = a
      · exact Or.inr ⟨e, rfl⟩
      · left
        have hT : QFull T b j := fun x hx => (h1 x hx).resolve_right fun e' => e (hx.symm.trans e')
        exact ⟨hT, fun h8 hf => h2 h8 (full_mono hf fun x => Or.inl)⟩
    · obtain ⟨d, rfl⟩ : ∃ d, j = o + (d + 1) := ⟨j - o - 1, by omega⟩
      by_cases hin : a / 2 ^ (d + 1) = b
      · exact absurd h1 (hup d b (by omega) hin)
      · left
        have hT : QFull T b (o + (d + 1)) := fun x hx => (h1 x hx).resolve_right fun e => hin (by rw [← hx, div_up x o (d + 1), e])
        exact ⟨hT, fun h8 hf => h2 h8 (full_mono hf fun x => Or.inl)⟩
  · rintro (⟨h1, h2⟩ | ⟨rfl, rfl⟩)
    · refine ⟨full_mono h1 fun x => Or.inl, fun h8 hf => ?_⟩
      -- the one that it is half of would be free with the block: so the block lies in the other half
      have hother : QFull (plusQ T a o) (budQ b) j := (parent_full hf).2
      by_cases hTo : QFull T (budQ b) j
      · exact h2 h8 (full_parent h1 hTo)
      · have : ∃ x, x / 2 ^ j = budQ b ∧ ¬ T x := by
          refine Classical.byContradiction fun hn => hTo fun x hx => Classical.byContradiction fun hx' => hn ⟨x, hx, hx'⟩
        obtain ⟨x, hx, hxT⟩ := this
        have hxa : x / 2 ^ o = a := (hother x hx).resolve_left hxT
        rcases Nat.lt_trichotomy j o with hlt | rfl | hgt
        · obtain ⟨d, rfl⟩ : ∃ d, o = j + (d + 1) := ⟨o - j - 1, by omega⟩
          -- the block holds both halves
          have hb : (b * 2 ^ j) / 2 ^ (j + (d + 1)) = a := by
            rw [div_up (b * 2 ^ j) j (d + 1), in_block, ← hxa, div_up x j (d + 1), hx]
            have h2 := budQ_half b
            rw [Nat.pow_succ, Nat.mul_comm, ← Nat.div_div_eq_div_mul, ← Nat.div_div_eq_div_mul, h2]
          exact hdis _ hb (h1 _ (in_block b j))
        · have : budQ b = a := by rw [← hx, hxa]
          refine hbud h8 ?_
          have hbb : budQ a = b := by rw [← this]; unfold budQ; split <;> split <;> omega
          rw [hbb]; exact h1
        · obtain ⟨d, rfl⟩ : ∃ d, j = o + (d + 1) := ⟨j - o - 1, by omega⟩
          have hin : a / 2 ^ (d + 1) = budQ b := by rw [← hx, div_up x o (d + 1), hxa]
          exact hup d _ (by omega) hin hother
    · exact ⟨hself, hnp⟩

theorem can_minus {T : Nat → Prop} {a o : Nat} (ho : o ≤ 8) (hc : QCan T a o) (b j : Nat) (hj : j ≤ 8) :
    QCan (minusQ T a o) b j ↔ QCan T b j ∧ ¬ (b = a ∧ j = o) := by
  -- T is what is left, and the block besides
  have hT : plusQ (minusQ T a o) a o = T := by
    funext x
    apply propext
    unfold plusQ minusQ
    constructor
    · rintro (⟨h, _⟩ | h)
      · exact h
      · exact hc.1 x h
    · intro h
      by_cases e : x / 2 ^ o = a
      · exact Or.inr e
      · exact Or.inl ⟨h, e⟩
  have hdis : ∀ x, x / 2 ^ o = a → ¬ minusQ T a o x := fun x hx h => h.2 hx
  have hbud : o < 8 → ¬ QFull (minusQ T a o) (budQ a) o := fun h8 hf => hc.2 h8 (full_parent hc.1 (full_mono hf fun x h => h.1))
  have h := can_plus ho hdis hbud b j hj
  rw [hT] at h
  constructor
  · intro h1
    refine ⟨h.2 (Or.inl h1), ?_⟩
    rintro ⟨rfl, rfl⟩
    exact hdis _ (in_block b j) (h1.1 _ (in_block b j))
  · rintro ⟨h1, h2⟩
    exact (h.1 h1).resolve_right h2

/-- The half beside a block: free as a whole just if it is one of the free ones. -/
theorem bud_can {T : Nat → Prop} {a o : Nat} (ho : o < 8) (hdis : ∀ x, x / 2 ^ o = a → ¬ T x) : QFull T (budQ a) o ↔ QCan T (budQ a) o := by
  refine ⟨fun h => ⟨h, fun _ hf => ?_⟩, fun h => h.1⟩
  rw [budQ_half] at hf
  exact hdis _ (in_block a o) ((parent_full hf).1 _ (in_block a o))

end Go.Proofs.Yteehghjdifbjbaa

namespace Go.Proofs.Yteehghjdifbjbaa
set_option linter.unusedSimpArgs false
set_option linter.unusedVariables false
set_option maxRecDepth 100000
open Go.RowKit Go.MapKept
set_option maxHeartbeats 1000000

abbrev Blk := Int × Int
def encB (x : Blk) : Value := .agg #[.int .i64 x.1, .int .i64 x.2]
theorem encB_inj {x y : Blk} (h : encB x = encB y) : x = y := by
  simp [encB] at h
  exact Prod.ext h.1 h.2
theorem blk_check' (x : Blk) (em : Bool) (n : Nat) (w : World) : (Instr.checkKey em (n + 1 + 1) 130 (encB x)).run Try.prog w = .ok () w := by
  have h1 := Try.underlying130
  have h2 := Try.underlying3
  have h3 := Try.sizeOf3
  have h4 := Try.isAgg3
  have c1 : ∀ (y : Int) (w : World), (Instr.checkKey em (n + 1) 3 (.int .i64 y)).run Try.prog w = .ok () w := fun y w => run_checkKey h2 (by first | trivial | simp [IsKey]) em n
  unfold Instr.checkKey
  simp only [encB, Sem.run_bind, run_underlying h1, Result.andThen]
  simp [go_sem, h2, h3, h4, c1, part, Result.andThen]
theorem blk_check (x : Blk) (em : Bool) (w : World) : (Instr.checkKey em 10000 130 (encB x)).run Try.prog w = .ok () w := blk_check' x em 9998 w
theorem blk_equal (x y : Blk) (w : World) : (Op.equal 130 (encB x) (encB y)).run Try.prog w = .ok (decide (x = y)) w := by
  have h1 := Try.underlying130
  have h2 := Try.underlying3
  have h3 := Try.sizeOf3
  have h4 := Try.isAgg3
  show (Op.equalIn (9999 + 1) 130 (encB x) (encB y)).run Try.prog w = _
  simp [encB, go_sem, h1, h2, h3, h4]
  by_cases e1 : x.1 = y.1
  · by_cases e2 : x.2 = y.2
    · rw [if_pos e1, if_pos e2, decide_eq_true (Prod.ext e1 e2)]
    · rw [if_pos e1, if_neg e2, decide_eq_false (fun e => e2 (by rw [e]))]
  · rw [if_neg e1, decide_eq_false (fun e => e1 (by rw [e]))]
theorem blk_stays (x : Blk) (w : World) : (Instr.keyThatStays (encB x) (encB x)).run Try.prog w = .ok (encB x) w := by
  have h : Instr.sameBits 10000 (encB x) (encB x) = true := by
    show Instr.sameBits (9998 + 1 + 1) (encB x) (encB x) = true
    simp [Instr.sameBits, encB]
  simp [Instr.keyThatStays, h]

/-- The entries of a map, as keys. -/
def KeysB (es : List MapEntry) (L : List Blk) : Prop := es.map (·.key) = L.map encB
theorem blk_find (x : Blk) (w : World) : ∀ (es : List MapEntry) (L : List Blk) (i : Nat), KeysB es L →
    (Instr.findAsking 130 (encB x) es i).run Try.prog w = .ok ((L.findIdx? (· == x)).bind fun j => (es[j]?).map fun e => (i + j, e.val)) w
  | [], L, i, h => by
    obtain rfl : L = [] := by simpa [KeysB] using h.symm
    simp [Instr.findAsking]
  | e :: es, [], i, h => by simp [KeysB] at h
  | e :: es, y :: L, i, h => by
    simp only [KeysB, List.map_cons, List.cons.injEq] at h
    obtain ⟨h1, h2⟩ := h
    unfold Instr.findAsking
    rw [h1]
    simp only [Sem.run_bind, blk_equal, Result.andThen_ok]
    by_cases hxy : x = y
    · subst hxy
      simp [List.findIdx?_cons]
    · have hyx : ¬ y = x := fun e => hxy e.symm
      have ih := blk_find x w es L (i + 1) h2
      simp only [decide_eq_false hxy, Bool.false_eq_true, if_false, ih, List.findIdx?_cons, beq_iff_eq, hyx]
      cases hf : L.findIdx? (· == x) with
      | none => simp
      | some j => simp; congr 1; funext e; simp; omega
theorem blk_findKey (x : Blk) (w : World) (es : List MapEntry) (L : List Blk) (h : KeysB es L) :
    (Instr.findKey 130 (encB x) es).run Try.prog w = .ok ((L.findIdx? (· == x)).bind fun j => (es[j]?).map fun e => (j, e.val)) w := by
  rw [run_findKey_eq w (by rw [Try.underlying130]), blk_find x w es L 0 h]
  simp

/-- A map at b holds just the blocks of L. -/
structure MapB (w : World) (b : Nat) (L : List Blk) : Prop where
  ex : ∃ es clock, w.heap[b]? = some (.map es clock) ∧ KeysB es.toList L ∧ (∀ e ∈ es.toList, e.val = .bool true) ∧ (es.toList.map (·.born)).Nodup ∧ ∀ e ∈ es.toList, e.born < clock
  nodup : L.Nodup

theorem MapB.heap {w w' : World} {b : Nat} {L : List Blk} (h : MapB w b L) (e : w'.heap[b]? = w.heap[b]?) : MapB w' b L := by
  obtain ⟨⟨es, c, h1, h2⟩, h3⟩ := h
  exact ⟨⟨es, c, e.trans h1, h2⟩, h3⟩
theorem MapB.lt {w : World} {b : Nat} {L : List Blk} (h : MapB w b L) : b < w.heap.size := by
  obtain ⟨⟨es, c, h1, _⟩, _⟩ := h
  exact heap_lt h1
theorem findIdx_mem {L : List Blk} {x : Blk} : (∃ j, L.findIdx? (· == x) = some j ∧ ∃ h : j < L.length, L[j] = x) ∨ (L.findIdx? (· == x) = none ∧ x ∉ L) := by
  cases hf : L.findIdx? (· == x) with
  | none =>
    right
    refine ⟨rfl, fun hx => ?_⟩
    rw [List.findIdx?_eq_none_iff] at hf
    have := hf x hx
    simp at this
  | some j =>
    left
    rw [List.findIdx?_eq_some_iff_getElem] at hf
    obtain ⟨h1, h2, _⟩ := hf
    exact ⟨j, rfl, h1, by simpa using h2⟩

theorem run_lookB {w : World} {b : Nat} {L : List Blk} (h : MapB w b L) (x : Blk) : (Instr.lookup 123 (.map (some b)) (encB x) false).run Try.prog w = .ok (.bool (decide (x ∈ L))) w := by
  obtain ⟨⟨es, c, h1, h2, h3, h4, h5⟩, h6⟩ := h
  have hl : es.toList.length = L.length := by have := congrArg List.length h2; simpa using this
  unfold Instr.lookup
  simp only [Sem.run_bind, run_underlying Try.underlying123, Result.andThen_ok, MapKept.run_getObj_map h1, Sem.run_pure, blk_check, blk_findKey x w es.toList L h2]
  rcases findIdx_mem (L := L) (x := x) with ⟨j, hj, hlt, hx⟩ | ⟨hj, hx⟩
  · have hle : j < es.toList.length := by omega
    have hv := h3 _ (List.getElem_mem hle)
    rw [hj]
    simp only [Option.bind_some, List.getElem?_eq_getElem hle, Option.map_some, Sem.run_pure, Result.andThen_ok, hv, Bool.false_eq_true, if_false]
    rw [decide_eq_true (hx ▸ List.getElem_mem hlt)]
    simp
  · rw [hj]
    have hz := Try.zeroValue4
    simp only [Option.bind_none, Sem.run_bind, hz, Result.andThen_ok, Sem.run_pure, Bool.false_eq_true, if_false]
    rw [decide_eq_false hx]
theorem run_layB {w : World} {b : Nat} {L : List Blk} (h : MapB w b L) (x : Blk) (hx : x ∉ L) : ∃ w', (Instr.mapUpdate 123 (.map (some b)) (encB x) (.bool true)).run Try.prog w = .ok () w' ∧ MapB w' b (L ++ [x]) ∧ Touch (· = b) w w' := by
  obtain ⟨⟨es, c, h1, h2, h3, h4, h5⟩, h6⟩ := h
  have hj : L.findIdx? (· == x) = none := by
    rcases findIdx_mem (L := L) (x := x) with ⟨j, _, hlt, he⟩ | ⟨hj, _⟩
    · exact absurd (he ▸ List.getElem_mem hlt) hx
    · exact hj
  have hlt := heap_lt h1
  refine ⟨{ w with heap := w.heap.setIfInBounds b (.map (es.push ⟨encB x, .bool true, c⟩) (c + 1)) }, ?_, ⟨⟨es.push ⟨encB x, .bool true, c⟩, c + 1, by simp [hlt], ?_, ?_, ?_, ?_⟩, ?_⟩, ⟨rfl, rfl, rfl, by simp, fun k _ hk => ?_⟩⟩
  · unfold Instr.mapUpdate
    simp only [Sem.run_bind, run_underlying Try.underlying123, Result.andThen_ok, MapKept.run_getObj_map h1, Sem.run_pure, blk_check, blk_findKey x w es.toList L h2, hj, Option.bind_none, MapKept.run_setObj_map _ h1]
  · have h2' : es.toList.map (·.key) = L.map encB := h2
    simp [KeysB, ← h2']
  · intro e he
    simp at he
    rcases he with he | rfl
    · exact h3 e (by simpa using he)
    · rfl
  · simp only [Array.toList_push, List.map_append, List.map_cons, List.map_nil]
    refine List.nodup_append.2 ⟨h4, by simp, fun y hy z hz => ?_⟩
    obtain ⟨e, he, rfl⟩ := List.mem_map.1 hy
    simp at hz
    have := h5 e he
    omega
  · intro e he
    simp at he
    rcases he with he | rfl
    · have := h5 e (by simpa using he); omega
    · simp
  · refine List.nodup_append.2 ⟨h6, by simp, fun y hy z hz => ?_⟩
    simp at hz
    exact fun e => hx (by rw [← hz, ← e]; exact hy)
  · have hk' : ¬ b = k := fun e => hk e.symm
    simp [Array.getElem?_setIfInBounds, hk']
theorem map_erase_idx {α β : Type} (f : α → β) : ∀ (l : List α) (j : Nat), (l.eraseIdx j).map f = (l.map f).eraseIdx j
  | [], _ => by simp
  | _ :: _, 0 => by simp
  | _ :: l, j + 1 => by simp [map_erase_idx f l j]
theorem run_delB {ty : TypeId} {w : World} {b : Nat} {L : List Blk} (h : MapB w b L) (x : Blk) (hx : x ∈ L) : ∃ w', (Builtin.delete_ #[123, 130] ty #[.map (some b), encB x]).run Try.prog w = .ok (.tuple #[]) w' ∧ MapB w' b (L.erase x) ∧ Touch (· = b) w w' := by
  obtain ⟨⟨es, c, h1, h2, h3, h4, h5⟩, h6⟩ := h
  have hl : es.toList.length = L.length := by have := congrArg List.length h2; simpa using this
  have hlt := heap_lt h1
  rcases findIdx_mem (L := L) (x := x) with ⟨j, hj, hjl, he⟩ | ⟨_, hn⟩
  · have hle : j < es.toList.length := by omega
    have hje : j < es.size := by simpa using hle
    have herase : L.erase x = L.eraseIdx j := by
      rw [List.erase_eq_eraseIdx]
      have : L.idxOf? x = some j := hj
      rw [this]
    have hes : (es.eraseIdxIfInBounds j).toList = es.toList.eraseIdx j := by simp
    refine ⟨{ w with heap := w.heap.setIfInBounds b (.map (es.eraseIdxIfInBounds j) c) }, ?_, ⟨⟨es.eraseIdxIfInBounds j, c, by simp [hlt], ?_, ?_, ?_, ?_⟩, ?_⟩, ⟨rfl, rfl, rfl, by simp, fun k _ hk => ?_⟩⟩
    · unfold Builtin.delete_
      simp only [List.getElem?_toArray, List.getElem?_cons_zero, List.getElem?_cons_succ]
      simp only [Sem.run_bind, run_underlying Try.underlying123, Result.andThen_ok, MapKept.run_getObj_map h1, Sem.run_pure, blk_check, blk_findKey x w es.toList L h2, hj, Option.bind_some, List.getElem?_eq_getElem hle, Option.map_some, MapKept.run_setObj_map _ h1]
    · have h2' : es.toList.map (·.key) = L.map encB := h2
      unfold KeysB
      rw [hes, herase, map_erase_idx, h2', map_erase_idx]
    · intro e hm
      rw [hes] at hm
      exact h3 e ((List.eraseIdx_sublist _ _).mem hm)
    · rw [hes]
      exact h4.sublist ((List.eraseIdx_sublist _ _).map _)
    · intro e hm
      rw [hes] at hm
      exact h5 e ((List.eraseIdx_sublist _ _).mem hm)
    · exact h6.erase x
    · have hk' : ¬ b = k := fun e => hk e.symm
      simp [Array.getElem?_setIfInBounds, hk']
  · exact absurd hx hn

end Go.Proofs.Yteehghjdifbjbaa

namespace Go.Proofs.Yteehghjdifbjbaa
set_option linter.unusedSimpArgs false
set_option linter.unusedVariables false
set_option maxRecDepth 100000
open Go.RowKit Go.Lib
set_option maxHeartbeats 1000000

def iCells (L : List Int) : List Value := L.map (Value.int .i64)
theorem iCells_len (L : List Int) : (iCells L).length = L.length := by simp [iCells]
theorem iCells_one (L : List Int) : ∀ u ∈ iCells L, u.oneCell' = true := fun u hu => by
  obtain ⟨x, _, rfl⟩ := List.mem_map.1 hu; rfl
/-- A list of ints of the program's own: its value v, its elements L. -/
def RowI (w : World) (base : Nat) (v : Value) (L : List Int) : Prop := w.ownsRow base 3 1 v L.length (iCells L)
theorem RowI.nil (w : World) (base : Nat) : RowI w base (.slice none 0 0) [] := World.ownsRow_nil _ _ _ _
theorem setCells_frame (b : Nat) : ∀ (vs : List Value) (o : Nat) (w : World), (w.setCells b o vs).os = w.os ∧ (w.setCells b o vs).tape = w.tape ∧ (w.setCells b o vs).output = w.output ∧ (w.setCells b o vs).heap.size = w.heap.size ∧ (∀ k, k ≠ b → (w.setCells b o vs).heap[k]? = w.heap[k]?) ∧
    ∀ cur e fr, w.heap[b]? = some (.cells cur e fr) → ∃ cur', (w.setCells b o vs).heap[b]? = some (.cells cur' e fr) ∧ cur'.size = cur.size
  | [], _, w => ⟨rfl, rfl, rfl, rfl, fun _ _ => rfl, fun cur e fr h => ⟨cur, h, rfl⟩⟩
  | v :: vs, o, w => by
    obtain ⟨h1, h2, h3, h4, h5, h6⟩ := setCells_frame b vs (o + 1) (w.setCell ⟨b, o, none⟩ v)
    refine ⟨h1, h2, h3, by rw [World.setCells, h4]; simp, fun k hk => ?_, fun cur e fr h => ?_⟩
    · rw [World.setCells, h5 k hk, Below.heap_setCell _ _ _ _ hk]
    · have h0 : (w.setCell ⟨b, o, none⟩ v).heap[b]? = some (.cells (cur.setIfInBounds o v) e fr) := by
        simp [World.setCell, Array.getElem?_modify, h]
      obtain ⟨cur', g1, g2⟩ := h6 _ _ _ h0
      exact ⟨cur', g1, by rw [g2]; simp⟩
theorem setCells_touch (b o : Nat) (vs : List Value) (w : World) : Touch (· = b) w (w.setCells b o vs) := by
  obtain ⟨h1, h2, h3, h4, h5, _⟩ := setCells_frame b vs o w
  exact ⟨h1, h2, h3, Nat.le_of_eq h4.symm, fun k _ hk => h5 k hk⟩
theorem list_eq_of {xs ys : List Value} (hl : xs.length = ys.length) (h : ∀ j, j < ys.length → xs[j]? = ys[j]?) : xs = ys := by
  apply List.ext_getElem? fun j => ?_
  by_cases hj : j < ys.length
  · exact h j hj
  · rw [List.getElem?_eq_none (by omega), List.getElem?_eq_none (by omega)]
/-- A row whose cells are told one by one. -/
theorem row_of_cells {w : World} {g n cap base : Nat} {cur : Array Value} {e : TypeId} {xs : List Value} (hb : base ≤ g) (hh : w.heap[g]? = some (.cells cur e (0, 0))) (hn : n ≤ cap) (hc : cap ≤ maxLen) (hs : cur.size = cap) (hx : xs.length = n)
    (h : ∀ j, j < n → w.cell? ⟨g, j, none⟩ = xs[j]?) : w.ownsRow base e 1 (.slice (some ⟨g, 0, none⟩) n cap) n xs := by
  refine ⟨by omega, Or.inr ⟨g, cap, cur, rfl, hb, hh, hn, hc, by omega, ?_⟩⟩
  refine list_eq_of (by rw [List.length_take, Array.length_toList]; omega) fun j hj => ?_
  have := h j (by omega)
  rw [cell_of_row w g j cur e (0, 0) hh] at this
  rw [List.getElem?_take_of_lt (by omega), Array.getElem?_toList, this]
theorem iCells_get (L : List Int) (j : Nat) (h : j < L.length) : (iCells L)[j]? = some (.int .i64 (L.getD j 0)) := by
  simp [iCells, List.getElem?_map, h]

/-- What a function leaves behind that has turned a list. -/
def SeqPost (w : World) (v : Value) (L' : List Int) (e : Ending) (w' : World) : Prop := ∃ a cap, e = .returned (.slice a L'.length cap) ∧ RowI w' 0 (.slice a L'.length cap) L' ∧ Touch (fun k => v.ownBlock = some k) w w' ∧ ∀ k, Value.ownBlock (.slice a L'.length cap) = some k → v.ownBlock = some k ∨ w.heap.size ≤ k
def insL (L : List Int) (i : Nat) (x : Int) : List Int := L.take i ++ x :: L.drop i
theorem insL_len (L : List Int) (i : Nat) (x : Int) (h : i ≤ L.length) : (insL L i x).length = L.length + 1 := by
  simp [insL]; omega
theorem insL_cells (L : List Int) (i : Nat) (x : Int) : iCells (insL L i x) = (iCells L).take i ++ .int .i64 x :: (iCells L).drop i := by
  simp [iCells, insL]
theorem cell_isSome_of {w : World} {g : Nat} {cur : Array Value} {e : TypeId} (hh : w.heap[g]? = some (.cells cur e (0, 0))) {j : Nat} (hj : j < cur.size) : (w.cell? ⟨g, j, none⟩).isSome = true := by
  rw [cell_of_row w g j cur e (0, 0) hh]; simp [hj]
theorem shape_cells {w : World} {g : Nat} {cur : Array Value} {e : TypeId} {fr : Nat × Nat} (hh : w.heap[g]? = some (.cells cur e fr)) : w.shape? g = some (e, cur.size) := by
  simp [World.shape?, hh]

theorem ins_get (A : List Value) (i j : Nat) (u : Value) (hi : i ≤ A.length) : (A.take i ++ u :: A.drop i)[j]? = if j < i then A[j]? else if j = i then some u else A[j - 1]? := by
  have hl : (A.take i).length = i := by rw [List.length_take]; omega
  by_cases h : j < i
  · rw [if_pos h, List.getElem?_append_left (by omega), List.getElem?_take_of_lt h]
  · rw [if_neg h, List.getElem?_append_right (by omega), hl]
    by_cases e : j = i
    · subst e; simp
    · rw [if_neg e]
      obtain ⟨q, hq⟩ : ∃ q, j - i = q + 1 := ⟨j - i - 1, by omega⟩
      rw [hq, List.getElem?_cons_succ, List.getElem?_drop]
      congr 1; omega
theorem set_one {w : World} {g o : Nat} {cur : Array Value} {e : TypeId} (hh : w.heap[g]? = some (.cells cur e (0, 0))) (vs : List Value) (hs : o + vs.length ≤ cur.size) (j : Nat) :
    (w.setCells g o vs).cell? ⟨g, j, none⟩ = if o ≤ j ∧ j < o + vs.length then vs[j - o]? else w.cell? ⟨g, j, none⟩ := by
  by_cases h : o ≤ j ∧ j < o + vs.length
  · rw [if_pos h]
    have := World.cell?_setCells_in g vs o w (fun q hq => cell_isSome_of hh (by omega)) (j - o) (by omega)
    rw [show o + (j - o) = j by omega] at this
    rw [this, List.getElem?_eq_getElem (by omega)]
  · rw [if_neg h]
    exact World.cell?_setCells_out g vs o w ⟨g, j, none⟩ (fun _ _ => by show j < o ∨ o + vs.length ≤ j; omega)
/-- The list A with u at i, stored over A's own cells. -/
theorem two_set {X Y Z : World} {g i n : Nat} {cur : Array Value} {e : TypeId} {A : List Value} {u : Value} (hA : A.length = n) (hi : i ≤ n) (hh : X.heap[g]? = some (.cells cur e (0, 0))) (hs : n + 1 ≤ cur.size) (hc : ∀ j, j < i → X.cell? ⟨g, j, none⟩ = A[j]?)
    (hy : (Y.heap = (X.setCells g (i + 1) (A.drop i)).heap ∧ Z.heap = (Y.setCells g i [u]).heap) ∨ (Y.heap = (X.setCells g i [u]).heap ∧ Z.heap = (Y.setCells g (i + 1) (A.drop i)).heap)) :
    (∃ cur', Z.heap[g]? = some (.cells cur' e (0, 0)) ∧ cur'.size = cur.size) ∧ ∀ j, j < n + 1 → Z.cell? ⟨g, j, none⟩ = (A.take i ++ u :: A.drop i)[j]? := by
  have hdl : (A.drop i).length = n - i := by rw [List.length_drop, hA]
  rcases hy with ⟨h1, h2⟩ | ⟨h1, h2⟩
  · obtain ⟨cy, k1, k2⟩ := (setCells_frame g (A.drop i) (i + 1) X).2.2.2.2.2 _ _ _ hh
    rw [← h1] at k1
    obtain ⟨cz, k3, k4⟩ := (setCells_frame g [u] i Y).2.2.2.2.2 _ _ _ k1
    rw [← h2] at k3
    refine ⟨⟨cz, k3, by omega⟩, fun j hj => ?_⟩
    rw [cell_of_heap (w := Y.setCells g i [u]) (by rw [h2]), set_one k1 [u] (by simp; omega), cell_of_heap (w := X.setCells g (i + 1) (A.drop i)) (by rw [h1]), set_one hh (A.drop i) (by omega), ins_get A i j u (by omega)]
    by_cases e1 : j < i
    · rw [if_neg (by simp; omega), if_neg (by omega), if_pos e1]; exact hc j e1
    · rw [if_neg e1]
      by_cases e2 : j = i
      · subst e2; simp
      · rw [if_neg (by simp; omega), if_pos (by omega), if_neg e2, List.getElem?_drop]; congr 1; omega
  · obtain ⟨cy, k1, k2⟩ := (setCells_frame g [u] i X).2.2.2.2.2 _ _ _ hh
    rw [← h1] at k1
    obtain ⟨cz, k3, k4⟩ := (setCells_frame g (A.drop i) (i + 1) Y).2.2.2.2.2 _ _ _ k1
    rw [← h2] at k3
    refine ⟨⟨cz, k3, by omega⟩, fun j hj => ?_⟩
    rw [cell_of_heap (w := Y.setCells g (i + 1) (A.drop i)) (by rw [h2]), set_one k1 (A.drop i) (by omega), cell_of_heap (w := X.setCells g i [u]) (by rw [h1]), set_one hh [u] (by simp; omega), ins_get A i j u (by omega)]
    by_cases e1 : j < i
    · rw [if_neg (by omega), if_neg (by simp; omega), if_pos e1]; exact hc j e1
    · rw [if_neg e1]
      by_cases e2 : j = i
      · subst e2; rw [if_neg (by omega)]; simp
      · rw [if_pos (by omega), if_neg e2, List.getElem?_drop]; congr 1; omega
theorem seq_done {w w' : World} {v : Value} {L' : List Int} {g cap : Nat} {cur' : Array Value} (hh : w'.heap[g]? = some (.cells cur' 3 (0, 0))) (hs : cur'.size = cap) (hn : L'.length ≤ cap) (hm : cap ≤ maxLen) (hc : ∀ j, j < L'.length → w'.cell? ⟨g, j, none⟩ = (iCells L')[j]?)
    (ht : Touch (fun k => v.ownBlock = some k) w w') (hg : v.ownBlock = some g ∨ w.heap.size ≤ g) : SeqPost w v L' (.returned (.slice (some ⟨g, 0, none⟩) L'.length cap)) w' :=
  ⟨_, cap, rfl, row_of_cells (Nat.zero_le _) hh hn hm hs (iCells_len _) hc, ht, fun k hk => by simp [Value.ownBlock] at hk; subst hk; exact hg⟩
theorem touch_setCells {S : Nat → Prop} {w X : World} (h : Touch S w X) (g o : Nat) (vs : List Value) (hg : S g ∨ w.heap.size ≤ g) : Touch S w (X.setCells g o vs) := by
  obtain ⟨h1, h2, h3, h4, h5, _⟩ := setCells_frame g vs o X
  exact ⟨h1.trans h.os, h2.trans h.tape, h3.trans h.output, by rw [h4]; exact h.size, fun k hk hs => (h5 k (fun e => by subst e; rcases hg with hg | hg; exact hs hg; omega)).trans (h.block k hk hs)⟩

theorem ins_any (v : Value) (L : List Int) (i : Nat) (x : Int) (vb : Nat) (w : World) (h : RowI w 0 v L) (hi : i ≤ L.length) (hL : L.length ≤ 1000000) (hx : w.heap[vb]? = some (.cells #[.int .i64 x] 3 (0, 0))) (hvb : v.ownBlock ≠ some vb) :
    Calls Try.prog 86 #[v, .int .i64 i, .slice (some ⟨vb, 0, none⟩) 1 1] w (SeqPost w v (insL L i x)) := by
  have hvs : ∀ j u, [Value.int .i64 x][j]? = some u → w.cell? ⟨vb, 0 + j, none⟩ = some u := fun j u hj => by
    rw [cell_of_row w vb _ _ _ _ hx, Nat.zero_add]; simpa using hj
  have h1v : ∀ u ∈ [Value.int .i64 x], u.oneCell' = true := fun u hu => by simp at hu; subst hu; rfl
  have hlen := insL_len L i x hi
  have hren : Try.insInt_ren.t 3 = 3 := rfl
  rcases h.2 with ⟨rfl, h0⟩ | ⟨g, cap, cur, rfl, -, hh, hnc, hcm, hcs, htk⟩
  · obtain rfl : L = [] := List.length_eq_zero_iff.1 h0
    obtain rfl : i = 0 := by simpa using hi
    have hcon := Any2.slices_Insert_int_end_grow Try.insInt none 0 0 vb 0 1 1 [] [.int .i64 x] w (by omega) (by omega) (by omega) (by omega) rfl rfl (fun _ => rfl) (fun a ha => by cases ha) hvs h1v
    change Calls Try.prog 86 _ _ _ at hcon
    rw [hren] at hcon
    refine hcon.mono fun e w' ⟨he, hw⟩ => ?_
    have hcap := grownCap_ge w 1 0 3
    have hcap2 := grownCap_le_maxLen w 1 0 3 (by unfold maxLen; omega)
    rw [Nat.zero_add] at he hw
    have hnew : w'.heap[w.heap.size]? = some (.cells (([] ++ [Value.int .i64 x]).toArray ++ Builtin.zeroCells (Value.int .i64 0).cells (grownCap w 1 0 3 - 1)) 3 (0, 0)) := by
      rw [hw]; exact heap_alloc_new w.drew _
    rw [he]
    have hl1 : (insL [] 0 x).length = 1 := rfl
    refine seq_done (L' := insL [] 0 x) hnew ?_ (by rw [hl1]; exact hcap) hcap2 (fun j hj => ?_) ?_ (Or.inr (Nat.le_refl _))
    · rw [Array.size_append, size_zeroCells]
      show 1 + (grownCap w 1 0 3 - 1) * 1 = _
      omega
    · obtain rfl : j = 0 := by rw [hl1] at hj; omega
      rw [cell_of_row w' _ _ _ _ _ hnew, Array.getElem?_append_left (by simp)]; simp [iCells, insL]
    · rw [hw]; exact (Touch.refl _ w).drew.alloc _
  · have hn1 : cur.size = cap := by omega
    have hcells : ∀ j, j < L.length → w.cell? ⟨g, j, none⟩ = (iCells L)[j]? := fun j hj => World.ownsRow.cellAt h j (by omega)
    have hcs' : ∀ j u, (iCells L)[j]? = some u → w.cell? ⟨g, 0 + j, none⟩ = some u := fun j u hj => by
      have := (List.getElem?_eq_some_iff.1 hj).1
      rw [Nat.zero_add, hcells j (by rw [iCells_len] at this; exact this)]; exact hj
    have hgv : vb ≠ g := fun e => hvb (by rw [e]; rfl)
    have hfree : ∀ j, w.frozen? ⟨g, 0 + j, none⟩ = false := fun j => by rw [Nat.zero_add]; exact World.ownsRow.frozenAt h j
    have hcl := iCells_len L
    by_cases hroom : L.length + 1 ≤ cap
    · by_cases hlt : i < L.length
      · have hcon := Any2.slices_Insert_int_shift Try.insInt g 0 L.length cap i vb 0 1 1 (iCells L) [.int .i64 x] w hlt (by omega) hroom (by unfold maxLen at hcm; omega) hgv hcl rfl hcs' (fun j hj => by rw [Nat.zero_add]; exact cell_isSome_of hh (by omega)) (fun j _ => hfree j) hvs (iCells_one L) h1v
          _ _ 1 cur.size (shape_cells hx) (shape_cells hh) (by omega) (by simp [World.frozen?, hx]) (by simp [World.frozen?, hx])
        change Calls Try.prog 86 _ _ _ at hcon
        refine hcon.mono fun e w' ⟨he, hw⟩ => ?_
        simp only [Nat.zero_add] at hw
        obtain ⟨⟨cz, k1, k2⟩, k3⟩ := two_set (X := w.drew) (Y := w.drew.setCells g (i + 1) ((iCells L).drop i)) (Z := w') (u := .int .i64 x) hcl (by omega) hh (by omega) (fun j hj => hcells j (by omega)) (Or.inl ⟨rfl, by rw [hw]⟩)
        rw [he]
        suffices hq : SeqPost w (.slice (some ⟨g, 0, none⟩) L.length cap) (insL L i x) (.returned (.slice (some ⟨g, 0, none⟩) (insL L i x).length cap)) w' by rwa [hlen] at hq
        refine seq_done k1 (by omega) (by omega) hcm (fun j hj => by rw [insL_cells]; exact k3 j (by omega)) ?_ (Or.inl rfl)
        rw [hw]
        exact touch_setCells (touch_setCells (Touch.refl (fun k => Value.ownBlock (.slice (some ⟨g, 0, none⟩) L.length cap) = some k) w).drew g _ _ (Or.inl rfl)) g _ _ (Or.inl rfl)
      · obtain rfl : i = L.length := by omega
        have hcon := Any2.slices_Insert_int_end_room Try.insInt g 0 L.length cap vb 0 1 1 [.int .i64 x] w (by omega) hroom (by unfold maxLen at hcm; omega) rfl (fun j hj => by rw [Nat.zero_add]; exact cell_isSome_of hh (by omega)) (fun j _ => by rw [Nat.add_assoc]; exact hfree _) hvs h1v
        change Calls Try.prog 86 _ _ _ at hcon
        refine hcon.mono fun e w' ⟨he, hw⟩ => ?_
        simp only [Nat.zero_add] at hw
        obtain ⟨⟨cz, k1, k2⟩, k3⟩ := two_set (X := w) (Y := w) (Z := w') (u := .int .i64 x) hcl (Nat.le_refl _) hh (by omega) (fun j hj => hcells j (by omega)) (Or.inl ⟨by rw [List.drop_of_length_le (by omega)]; rfl, by rw [hw]⟩)
        rw [he]
        suffices hq : SeqPost w (.slice (some ⟨g, 0, none⟩) L.length cap) (insL L L.length x) (.returned (.slice (some ⟨g, 0, none⟩) (insL L L.length x).length cap)) w' by rwa [hlen] at hq
        refine seq_done k1 (by omega) (by omega) hcm (fun j hj => by rw [insL_cells]; exact k3 j (by omega)) ?_ (Or.inl rfl)
        rw [hw]
        exact touch_setCells (Touch.refl (fun k => Value.ownBlock (.slice (some ⟨g, 0, none⟩) L.length cap) = some k) w) g _ _ (Or.inl rfl)
    · have hcap := grownCap_ge w (L.length + 1) cap 3
      have hcap2 := grownCap_le_maxLen w (L.length + 1) cap 3 (by unfold maxLen; omega)
      by_cases hlt : i < L.length
      · have hcon := Any2.slices_Insert_int_grow Try.insInt g 0 L.length cap i vb 0 1 1 (iCells L) [.int .i64 x] w hlt (by omega) hnc (by omega) (by omega) hcl rfl hcs' hvs (iCells_one L) h1v
        change Calls Try.prog 86 _ _ _ at hcon
        rw [hren] at hcon
        refine hcon.mono fun e w' ⟨he, hw⟩ => ?_
        obtain ⟨cn, hcn⟩ : ∃ cn, cn = ((iCells L).take i).toArray ++ Builtin.zeroCells (Value.int .i64 0).cells (L.length + 1 - i) ++ Builtin.zeroCells (Value.int .i64 0).cells (grownCap w (L.length + 1) cap 3 - (L.length + 1)) := ⟨_, rfl⟩
        rw [← hcn] at hw
        have hsz : cn.size = grownCap w (L.length + 1) cap 3 := by
          rw [hcn, Array.size_append, Array.size_append, size_zeroCells, size_zeroCells]
          show ((iCells L).take i).toArray.size + (L.length + 1 - i) * 1 + (grownCap w (L.length + 1) cap 3 - (L.length + 1)) * 1 = _
          rw [List.size_toArray, List.length_take]
          omega
        have hX : (w.alloc (.cells cn 3)).drew.heap[w.heap.size]? = some (.cells cn 3 (0, 0)) := heap_alloc_new w _
        obtain ⟨⟨cz, k1, k2⟩, k3⟩ := two_set (X := (w.alloc (.cells cn 3)).drew) (Y := ((w.alloc (.cells cn 3)).drew.setCells w.heap.size i [.int .i64 x]).drew) (Z := w') (u := .int .i64 x) hcl (by omega) hX (by omega) (fun j hj => by
          rw [cell_of_row _ _ _ _ _ _ hX, hcn, Array.getElem?_append_left (by simp; omega), Array.getElem?_append_left (by simp; omega), List.getElem?_toArray, List.getElem?_take_of_lt hj]) (Or.inr ⟨rfl, by rw [hw]⟩)
        rw [he]
        suffices hq : SeqPost w (.slice (some ⟨g, 0, none⟩) L.length cap) (insL L i x) (.returned (.slice (some ⟨w.heap.size, 0, none⟩) (insL L i x).length (grownCap w (L.length + 1) cap 3))) w' by rwa [hlen] at hq
        refine seq_done k1 (by omega) (by omega) hcap2 (fun j hj => by rw [insL_cells]; exact k3 j (by omega)) ?_ (Or.inr (Nat.le_refl _))
        rw [hw]
        exact touch_setCells (touch_setCells ((Touch.refl (fun k => Value.ownBlock (.slice (some ⟨g, 0, none⟩) L.length cap) = some k) w).alloc _).drew w.heap.size _ _ (Or.inr (Nat.le_refl _))).drew w.heap.size _ _ (Or.inr (Nat.le_refl _))
      · obtain rfl : i = L.length := by omega
        have hcon := Any2.slices_Insert_int_end_grow Try.insInt (some ⟨g, 0, none⟩) L.length cap vb 0 1 1 (iCells L) [.int .i64 x] w (by omega) hnc (by omega) (by omega) hcl rfl (fun e => by cases e) (fun a ha j u hj => by
          injection ha with ha; subst ha
          have : (⟨g, 0, none⟩ : Addr).add j = ⟨g, 0 + j, none⟩ := by unfold Addr.add; split <;> simp_all
          rw [this]; exact hcs' j u hj) hvs h1v
        change Calls Try.prog 86 _ _ _ at hcon
        rw [hren] at hcon
        refine hcon.mono fun e w' ⟨he, hw⟩ => ?_
        obtain ⟨cn, hcn⟩ : ∃ cn, cn = (iCells L ++ [Value.int .i64 x]).toArray ++ Builtin.zeroCells (Value.int .i64 0).cells (grownCap w (L.length + 1) cap 3 - (L.length + 1)) := ⟨_, rfl⟩
        rw [← hcn] at hw
        have hsz : cn.size = grownCap w (L.length + 1) cap 3 := by
          rw [hcn, Array.size_append, size_zeroCells]
          show (iCells L ++ [Value.int .i64 x]).toArray.size + (grownCap w (L.length + 1) cap 3 - (L.length + 1)) * 1 = _
          rw [List.size_toArray, List.length_append, hcl]
          simp; omega
        have hX : w'.heap[w.heap.size]? = some (.cells cn 3 (0, 0)) := by rw [hw]; exact heap_alloc_new w.drew _
        rw [he]
        suffices hq : SeqPost w (.slice (some ⟨g, 0, none⟩) L.length cap) (insL L L.length x) (.returned (.slice (some ⟨w.heap.size, 0, none⟩) (insL L L.length x).length (grownCap w (L.length + 1) cap 3))) w' by rwa [hlen] at hq
        refine seq_done hX (by omega) (by omega) hcap2 (fun j hj => ?_) ?_ (Or.inr (Nat.le_refl _))
        · rw [cell_of_row _ _ _ _ _ _ hX, hcn, Array.getElem?_append_left (by simp [iCells]; omega), List.getElem?_toArray, insL_cells, List.take_of_length_le (by omega), List.drop_of_length_le (by omega)]
        · rw [hw]; exact ((Touch.refl (fun k => Value.ownBlock (.slice (some ⟨g, 0, none⟩) L.length cap) = some k) w).drew).alloc _

end Go.Proofs.Yteehghjdifbjbaa

namespace Go.Proofs.Yteehghjdifbjbaa
set_option linter.unusedSimpArgs false
set_option linter.unusedVariables false
set_option maxRecDepth 100000
open Go.RowKit Go.Lib
set_option maxHeartbeats 1000000

theorem iCells_cell {w : World} {g cap : Nat} {L : List Int} (h : RowI w 0 (.slice (some ⟨g, 0, none⟩) L.length cap) L) (j : Nat) (hj : j < L.length) : w.cell? ⟨g, 0 + j, none⟩ = some (.int .i64 (L.getD j 0)) := by
  rw [Nat.zero_add, World.ownsRow.cellAt h j (by omega), iCells_get L j hj]
theorem search_any (v : Value) (L : List Int) (x : Int) (w : World) (h : RowI w 0 v L) (hs : L.Pairwise (· ≤ ·)) (hL : L.length ≤ 1000000) :
    Calls Try.prog 85 #[v, .int .i64 x] w fun e w' => e = .returned (.tuple #[.int .i64 (L.countP (· < x) : Nat), .bool (L.contains x)]) ∧ ∃ q, w' = w.drewN q := by
  rcases h.2 with ⟨rfl, h0⟩ | ⟨g, cap, cur, rfl, -, hh, hnc, hcm, hcs, htk⟩
  · obtain rfl : L = [] := List.length_eq_zero_iff.1 h0
    exact (Try.slices_BinarySearch_int_empty none 0 x w).mono fun e w' ⟨he, hw⟩ => ⟨he, 0, hw⟩
  · have := Try.slices_BinarySearch_int g 0 L.length cap L x w (Nat.le_refl _) (by omega) (fun j hj => iCells_cell h j hj) (by rw [List.take_length]; exact hs)
    rw [List.take_length] at this
    exact this
theorem touch_drewN {S : Nat → Prop} {w : World} (q : Nat) : Touch S w (w.drewN q) := (Touch.refl _ _).drewN q
theorem del_any (v : Value) (L : List Int) (i : Nat) (w : World) (h : RowI w 0 v L) (hi : i < L.length) (hL : L.length ≤ 1000000) :
    Calls Try.prog 95 #[v, .int .i64 i, .int .i64 (i + 1)] w (SeqPost w v (L.eraseIdx i)) := by
  rcases h.2 with ⟨rfl, h0⟩ | ⟨g, cap, cur, rfl, -, hh, hnc, hcm, hcs, htk⟩
  · omega
  · have hcon := Try.slices_Delete_int_cells g 0 L.length cap i (i + 1) L w (Nat.le_refl _) hnc (by unfold maxLen at hcm; omega) (by omega) (by omega) (fun j hj => iCells_cell h j hj) (fun j _ => by rw [Nat.zero_add]; exact World.ownsRow.frozenAt h j)
    have hlen : (L.eraseIdx i).length = L.length - 1 := List.length_eraseIdx_of_lt hi
    refine hcon.mono fun e w' ⟨he, q, hw⟩ => ?_
    rw [List.take_length] at hw
    have hds : L.eraseIdx i = L.take i ++ L.drop (i + 1) := List.eraseIdx_eq_take_drop_succ L i
    obtain ⟨X, hX⟩ : ∃ X, X = (L.take i ++ L.drop (i + 1) ++ List.replicate (i + 1 - i) (0 : Int)).map (Value.int .i64) := ⟨_, rfl⟩
    rw [← hX] at hw
    have hXl : X.length = L.length := by rw [hX]; simp; omega
    have hhq : (w.drewN q).heap[g]? = some (.cells cur 3 (0, 0)) := hh
    obtain ⟨cz, k1, k2⟩ := (setCells_frame g X 0 (w.drewN q)).2.2.2.2.2 _ _ _ hhq
    rw [← hw] at k1
    rw [he]
    suffices hq : SeqPost w (.slice (some ⟨g, 0, none⟩) L.length cap) (L.eraseIdx i) (.returned (.slice (some ⟨g, 0, none⟩) (L.eraseIdx i).length cap)) w' by
      rw [hlen] at hq
      rw [show L.length - (i + 1 - i) = L.length - 1 by omega]; exact hq
    refine seq_done k1 (by omega) (by omega) hcm (fun j hj => ?_) ?_ (Or.inl rfl)
    · rw [hw, set_one hhq X (by omega), if_pos (by omega), hX, hds, Nat.sub_zero, List.map_append, List.getElem?_append_left (by rw [List.length_map, ← hds]; exact hj)]
      rfl
    · rw [hw]
      exact touch_setCells (touch_drewN q) g _ _ (Or.inl rfl)

/-! ### Plain: where an element stands in a rising list -/
theorem count_rise : ∀ (L : List Int) (x : Int), L.Pairwise (· < ·) → ∃ i, L.countP (· < x) = i ∧ i ≤ L.length ∧ (∀ y ∈ L.take i, y < x) ∧ (∀ y ∈ L.drop i, x ≤ y)
  | [], x, _ => ⟨0, rfl, Nat.le_refl _, by simp, by simp⟩
  | y :: L, x, h => by
    obtain ⟨h1, h2⟩ := List.pairwise_cons.1 h
    obtain ⟨i, hi, hl, ha, hb⟩ := count_rise L x h2
    by_cases hy : y < x
    · refine ⟨i + 1, by rw [List.countP_cons_of_pos (by simpa using hy), hi], by simp; omega, fun z hz => ?_, fun z hz => ?_⟩
      · rw [List.take_succ_cons, List.mem_cons] at hz
        rcases hz with rfl | hz
        · exact hy
        · exact ha z hz
      · rw [List.drop_succ_cons] at hz; exact hb z hz
    · have h0 : L.countP (· < x) = 0 := List.countP_eq_zero.2 fun z hz => by have := h1 z hz; simp; omega
      refine ⟨0, by rw [List.countP_cons_of_neg (by simpa using hy), h0], by simp, by simp, fun z hz => ?_⟩
      rw [List.drop_zero, List.mem_cons] at hz
      rcases hz with rfl | hz
      · omega
      · have := h1 z hz; omega
/-- A rising list with an element more. -/
def addL (L : List Int) (x : Int) : List Int := insL L (L.countP (· < x)) x
theorem mem_addL (L : List Int) (x y : Int) : y ∈ addL L x ↔ y = x ∨ y ∈ L := by
  unfold addL insL
  rw [List.mem_append, List.mem_cons]
  constructor
  · rintro (h | h | h)
    · exact Or.inr (List.mem_of_mem_take h)
    · exact Or.inl h
    · exact Or.inr (List.mem_of_mem_drop h)
  · rintro (h | h)
    · exact Or.inr (Or.inl h)
    · rw [← List.take_append_drop (L.countP (· < x)) L, List.mem_append] at h
      rcases h with h | h
      · exact Or.inl h
      · exact Or.inr (Or.inr h)
theorem rise_addL (L : List Int) (x : Int) (h : L.Pairwise (· < ·)) (hx : x ∉ L) : (addL L x).Pairwise (· < ·) := by
  obtain ⟨i, hi, hl, ha, hb⟩ := count_rise L x h
  unfold addL insL
  rw [hi]
  have hd : (L.drop i).Pairwise (· < ·) := h.sublist (List.drop_sublist i L)
  have ht : (L.take i).Pairwise (· < ·) := h.sublist (List.take_sublist i L)
  refine List.pairwise_append.2 ⟨ht, List.pairwise_cons.2 ⟨fun y hy => ?_, hd⟩, fun y hy z hz => ?_⟩
  · have h1 := hb y hy
    have h2 : y ≠ x := fun e => hx (e ▸ List.mem_of_mem_drop hy)
    omega
  · rw [List.mem_cons] at hz
    rcases hz with rfl | hz
    · exact ha y hy
    · have h1 := ha y hy
      have h2 := hb z hz
      omega
/-- A rising list without an element of it. -/
def delL (L : List Int) (x : Int) : List Int := L.eraseIdx (L.countP (· < x))
theorem at_count (L : List Int) (x : Int) (h : L.Pairwise (· < ·)) (hx : x ∈ L) : ∃ hi : L.countP (· < x) < L.length, L[L.countP (· < x)] = x := by
  obtain ⟨i, hi, hl, ha, hb⟩ := count_rise L x h
  have hm : x ∈ L.drop i := by
    have h1 := hx
    rw [← List.take_append_drop i L, List.mem_append] at h1
    rcases h1 with h1 | h1
    · have := ha x h1; omega
    · exact h1
  obtain ⟨j, hj, hje⟩ := List.getElem_of_mem hm
  rw [List.getElem_drop] at hje
  rw [List.length_drop] at hj
  have hil : i < L.length := by omega
  have hj0 : j = 0 := by
    by_cases h0 : j = 0
    · exact h0
    · exfalso
      have hlt : L[i] < L[i + j] := List.pairwise_iff_getElem.1 h i (i + j) hil (by omega) (by omega)
      have hge : x ≤ L[i] := hb L[i] (by rw [List.drop_eq_getElem_cons hil]; exact List.mem_cons_self)
      omega
  subst hj0
  simp only [Nat.add_zero] at hje
  rw [hi]
  exact ⟨hil, hje⟩
theorem mem_delL (L : List Int) (x y : Int) (h : L.Pairwise (· < ·)) (hx : x ∈ L) : y ∈ delL L x ↔ y ≠ x ∧ y ∈ L := by
  obtain ⟨hi, he⟩ := at_count L x h hx
  unfold delL
  rw [List.mem_eraseIdx_iff_getElem?]
  constructor
  · rintro ⟨j, hj, hy⟩
    obtain ⟨hjl, rfl⟩ := List.getElem?_eq_some_iff.1 hy
    refine ⟨fun e => hj ?_, List.getElem_mem hjl⟩
    rcases Nat.lt_trichotomy j (L.countP (· < x)) with h1 | h1 | h1
    · have := List.pairwise_iff_getElem.1 h j _ hjl hi h1; omega
    · exact h1
    · have := List.pairwise_iff_getElem.1 h _ j hi hjl h1; omega
  · rintro ⟨hne, hy⟩
    obtain ⟨j, hjl, rfl⟩ := List.getElem_of_mem hy
    exact ⟨j, fun e => hne (by subst e; exact he), List.getElem?_eq_getElem hjl⟩
theorem rise_delL (L : List Int) (x : Int) (h : L.Pairwise (· < ·)) : (delL L x).Pairwise (· < ·) := h.sublist (List.eraseIdx_sublist _ _)

end Go.Proofs.Yteehghjdifbjbaa
