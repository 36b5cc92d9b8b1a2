/- What trunnionref13.Words returns, by a walk over its text. -/
import Derived.Test.YtfjfdhojhikgdaaLaw13
namespace Go.Proofs.Ytfjfdhojhikgdaa
set_option linter.unusedSimpArgs false
set_option linter.unusedVariables false
open Go.RowKit
set_option maxHeartbeats 4000000

/-- An instruction's word. -/
def wordX (I : Nat → Nat → Int) (i : Nat) : Int :=
  if rightI (I i 0) (I i 1) (I i 2) (I i 3) (I i 4) = true then I i 0 + 256 * I i 1 + 2048 * I i 2 + 16384 * I i 3 + 16777216 * I i 4 else 0
/-- Parts that are as many bits as they may be. -/
def InsOk (I : Nat → Nat → Int) (n : Nat) : Prop := ∀ i, i < n → (0 ≤ I i 0 ∧ I i 0 < 256) ∧ (0 ≤ I i 1 ∧ I i 1 < 8) ∧ (0 ≤ I i 2 ∧ I i 2 < 8) ∧ (0 ≤ I i 3 ∧ I i 3 < 8) ∧ (0 ≤ I i 4 ∧ I i 4 < 65536)
theorem wordX_bd {I : Nat → Nat → Int} {n i : Nat} (h : InsOk I n) (hi : i < n) : 0 ≤ wordX I i ∧ wordX I i < 18446744073709551616 := by
  obtain ⟨h0, h1, h2, h3, h4⟩ := h i hi
  unfold wordX; split <;> omega

def WordsPost (n : Nat) (I : Nat → Nat → Int) (w : World) (e : Ending) (w' : World) : Prop :=
  ∃ g c, e = .returned (.slice (some ⟨g, 0, none⟩) n c) ∧ w.heap.size ≤ g ∧ g < w'.heap.size ∧ (∀ i, i < n → w'.cell? ⟨g, i, none⟩ = some (.int .u64 (wordX I i))) ∧ Below w.heap.size w w'

set_option maxRecDepth 100000 in
theorem words_walk (b n cap : Nat) (I : Nat → Nat → Int) (w : World) (hb : b < w.heap.size) (hc : ∀ i, i < n → ∀ j, j < 5 → w.cell? ⟨b, i * 5 + j, none⟩ = some (.int .i64 (I i j))) (hI : InsOk I n) (h0 : 0 < n) (hn : n ≤ 1000) :
    Calls Try.prog 17 #[.slice (some ⟨b, 0, none⟩) n cap] w (WordsPost n I w) := by
  obtain ⟨i0, hi, hz0, hz1, hz2⟩ := info_parts info_u64
  have HC := Lib.hid hc; have HI := Lib.hid hI
  clear hc hI
  go_enter Try.func17, Try.ntmps17
  go_wp2_with (fail)
  go_loopw [3, 4] (fun v i wr => ∃ k : Nat, k ≤ n ∧ i = .int .i64 k ∧ wr.ownsRow w.heap.size 22 1 v k ((List.range k).map fun i => Value.int .u64 (wordX I i)) ∧ Below w.heap.size w wr) (fun _ i _ => n - (intOf i).toNat)
  case atStart => exact ⟨0, by omega, rfl, by simpa using World.ownsRow_nil _ _ _ _, Below.refl _ _⟩
  case round =>
    obtain ⟨k, hk, rfl, hown, hbr⟩ := hrel
    rename_i wr
    obtain ⟨A0, c0, rfl⟩ : ∃ a c, _ = Value.slice a k c := own_slice hown
    by_cases hlt : k < n
    · have q0 := keep hbr hb (HC.out k hlt 0 (by omega))
      have q1 := keep hbr hb (HC.out k hlt 1 (by omega))
      have q2 := keep hbr hb (HC.out k hlt 2 (by omega))
      have q3 := keep hbr hb (HC.out k hlt 3 (by omega))
      have q4 := keep hbr hb (HC.out k hlt 4 (by omega))
      obtain ⟨⟨o0, o1⟩, ⟨a0, a1⟩, ⟨b0, b1⟩, ⟨c0', c1⟩, ⟨m0, m1⟩⟩ := HI.out k hlt
      have hwb := wordX_bd HI.out hlt
      obtain ⟨X, hX⟩ : ∃ X, X = wordX I k := ⟨_, rfl⟩
      have HX := Lib.hid hX
      rw [← hX] at hwb
      obtain ⟨x0, x1⟩ := hwb
      unfold wordX at hX
      generalize I k 0 = p0 at *
      generalize I k 1 = p1 at *
      generalize I k 2 = p2 at *
      generalize I k 3 = p3 at *
      generalize I k 4 = p4 at *
      have HX2 := Lib.hid hX
      clear hX
      simp only [Nat.add_zero] at q0
      have hbs := hbr.size
      have hbl : b < wr.heap.size := by omega
      have hv0 : (0 : Int) ≤ k := by omega
      have hv1 : (k : Int) < n := by omega
      go_wp2_with (fail)
      refine (r12_word_any _ _ _ _ _ _ o0 o1 a0 a1 b0 b1 c0' c1 m0 m1).mono ?_
      rintro e w1 ⟨rfl, hb1⟩
      rw [← HX2.out]
      generalize (if rightI p0 p1 p2 p3 p4 = true then (0 : Int) else 1) = E2
      have hown1 := own_touch (S := fun _ => False) hown (Touch.of_below hb1) (fun _ _ => id)
      have hb1' : Below w.heap.size w w1 := hbr.trans (hb1.mono hbs)
      go_wp2_with (at_builtin; refine wpList_append_own _ rfl _ _ 26 rfl w.heap.size 22 i0 (.int .u64 0) 1 8 Try.underlying26 hi hz0 hz1 hz2 rfl (by decide) (.slice A0 k c0) k _ rfl (hown1.alloc _) ⟨w1.heap.size, 0, none⟩ 1 1 [.int .u64 X] rfl rfl (one_new _ _ _) (fun x hx => by simp at hx; subst hx; rfl) (by unfold maxLen; omega) (by omega) (by have := hb1'.size; simp; omega) ?_; refine fun v' w2 hown2 hgrow2 hnil2 => Hold.out ?_)
      refine ⟨?_⟩
      obtain ⟨A1, c1', rfl⟩ := own_slice hown2
      have hb2 : Below w.heap.size w w2 := Below.grown (hb1'.alloc hb1'.size _) hgrow2 (by have := hb1'.size; simp; omega) (fun j hj => (hown1.lt j hj).1)
      have hown3 : w2.ownsRow w.heap.size 22 1 (.slice A1 (k + 1) c1') (k + 1) ((List.range (k + 1)).map fun i => Value.int .u64 (wordX I i)) := by
        rw [List.range_succ, List.map_append]
        simp only [List.map_cons, List.map_nil]
        rw [← HX.out]; exact hown2
      clear hown2 hgrow2 hnil2 hown1 hown
      have HO := Lib.hid hown3
      clear hown3
      go_wp2_with (fail)
      go_roundw
      case rel => exact ⟨k + 1, by omega, by go_num, HO.out, hb2⟩
      case measure => simp [intOf]; omega
    · have hkn : k = n := by omega
      subst hkn
      go_wp2_with (fail)
      go_ret
      rcases hown.2 with ⟨h1, h2⟩ | ⟨g, cap', cur, h1, hg, hh, _⟩
      · omega
      · cases h1
        have hgl : g < wr.heap.size := by
          rcases Nat.lt_or_ge g wr.heap.size with h | h
          · exact h
          · rw [Array.getElem?_eq_none h] at hh; cases hh
        refine ⟨g, c0, rfl, hg, hgl, fun i hi => ?_, hbr⟩
        have := hown.cellAt i (by simpa using hi)
        rw [this]; simp [hi]

end Go.Proofs.Ytfjfdhojhikgdaa
