/- Plain facts on programs: what a step of a known instruction does; a program that adds up. -/
import Derived.Test.YtfjfdhojhikgdaaWords13
namespace Go.Proofs.Ytfjfdhojhikgdaa
set_option linter.unusedSimpArgs false
set_option linter.unusedVariables false
open Go.RowKit
set_option maxHeartbeats 4000000

theorem parts_of (o a b c m : Int) (h0 : 0 ≤ o) (h1 : o < 256) (a0 : 0 ≤ a) (a1 : a < 8) (b0 : 0 ≤ b) (b1 : b < 8) (c0 : 0 ≤ c) (c1 : c < 8) (m0 : 0 ≤ m) (m1 : m < 65536) (hr : rightI o a b c m = true) (x : Int)
    (hx : x = o + 256 * a + 2048 * b + 16384 * c + 16777216 * m) : okX x = true ∧ xP x 0 = o ∧ xP x 1 = a ∧ xP x 2 = b ∧ xP x 3 = c ∧ xP x 4 = m := by
  have e0 : x % 256 = o := by omega
  have e1 : x / 256 % 8 = a := by omega
  have e2 : x / 2048 % 8 = b := by omega
  have e3 : x / 16384 % 8 = c := by omega
  have e4 : x / 16777216 % 65536 = m := by omega
  have hok : okX x = true := by
    unfold okX; rw [e0, e1, e2, e3, e4, hr]; simp; omega
  simp [xP, hok, partI, e0, e1, e2, e3, e4]

theorem stepM_at (n : Nat) (first : Int) (r W : Nat → Int) (pc : Nat) (o a b c m : Int) (h8 : r 8 = pc) (hpc : pc < n) (hn : n ≤ 1000) (h0 : 0 ≤ o) (h1 : o < 256) (a0 : 0 ≤ a) (a1 : a < 8) (b0 : 0 ≤ b) (b1 : b < 8) (c0 : 0 ≤ c) (c1 : c < 8) (m0 : 0 ≤ m) (m1 : m < 65536)
    (hr : rightI o a b c m = true) (hx : W pc = o + 256 * a + 2048 * b + 16384 * c + 16777216 * m) : stepM n first r W = stepI n first r W pc o a b c m := by
  have hp : r 8 % 65536 = pc := by rw [h8]; omega
  obtain ⟨g0, g1, g2, g3, g4, g5⟩ := parts_of o a b c m h0 h1 a0 a1 b0 b1 c0 c1 m0 m1 hr _ hx
  unfold stepM
  rw [hp]
  have hl : ldE n (pc : Int) = 0 := by unfold ldE; rw [if_pos ⟨by omega, by omega⟩]
  rw [hl]
  simp only [Int.toNat_natCast, ne_eq, not_true, if_false]
  rw [g0, g1, g2, g3, g4, g5]
  simp

/-- What the rest of a run comes to: steps, error, registers, words. -/
def RunsTo (n : Nat) (first : Int) (f : Nat) (r W : Nat → Int) (d : Nat) (e : Int) (r' W' : Nat → Int) : Prop :=
  (runM n first f r W).done = d ∧ (runM n first f r W).e = e ∧ (runM n first f r W).r = r' ∧ (runM n first f r W).W = W'
theorem RunsTo.step {n : Nat} {first : Int} {f : Nat} {r W : Nat → Int} {d : Nat} {e : Int} {r' W' r1 W1 : Nat → Int} (he : (stepM n first r W).e = 0) (hr : (stepM n first r W).r = r1) (hW : (stepM n first r W).W = W1) (h : RunsTo n first f r1 W1 d e r' W') :
    RunsTo n first (f + 1) r W (d + 1) e r' W' := by
  obtain ⟨h1, h2, h3, h4⟩ := h
  unfold RunsTo
  simp only [runM, he, hr, hW, ne_eq, not_true, if_false]
  exact ⟨by omega, h2, h3, h4⟩
theorem RunsTo.stop {n : Nat} {first : Int} {f : Nat} {r W : Nat → Int} {e : Int} {r1 W1 : Nat → Int} (hz : e ≠ 0) (he : (stepM n first r W).e = e) (hr : (stepM n first r W).r = r1) (hW : (stepM n first r W).W = W1) :
    RunsTo n first (f + 1) r W 0 e r1 W1 := by
  unfold RunsTo
  simp only [runM, he, hr, hW, ne_eq, hz, not_false_eq_true, if_true]
  exact ⟨trivial, trivial, trivial, trivial⟩

/-- The words of the program that adds up. -/
structure SumW (W : Nat → Int) (k : Int) : Prop where
  w0 : W 0 = 1 + 256 * 1 + 2048 * 0 + 16384 * 0 + 16777216 * k
  w1 : W 1 = 1 + 256 * 2 + 2048 * 0 + 16384 * 0 + 16777216 * 1
  w2 : W 2 = 9 + 256 * 1 + 2048 * 0 + 16384 * 0 + 16777216 * 6
  w3 : W 3 = 2 + 256 * 3 + 2048 * 3 + 16384 * 1 + 16777216 * 0
  w4 : W 4 = 3 + 256 * 1 + 2048 * 1 + 16384 * 2 + 16777216 * 0
  w5 : W 5 = 8 + 256 * 0 + 2048 * 0 + 16384 * 0 + 16777216 * 2
  w6 : W 6 = 7 + 256 * 3 + 2048 * 0 + 16384 * 0 + 16777216 * 8
  w7 : W 7 = 0 + 256 * 0 + 2048 * 0 + 16384 * 0 + 16777216 * 0

theorem wrap_in (x : Int) (h0 : 0 ≤ x) (h1 : x < 18446744073709551616) : IntKind.u64.wrap x = x := by
  simp [IntKind.wrap, IntKind.signed, IntKind.bits]; omega

theorem sum_tail (W : Nat → Int) (n : Int) (hW : SumW W n) (f : Nat) (r : Nat → Int) (h8 : r 8 = 2) (h1 : r 1 = 0) (h0 : r 0 = 0) (S : Int) (h3 : r 3 = S) :
    ∃ r' W', RunsTo 9 8 (f + 3) r W 2 13 r' W' ∧ r' 3 = S ∧ r' 8 = 7 ∧ W' 8 = S := by
  have s1 := stepM_at 9 8 r W 2 9 1 0 0 6 h8 (by omega) (by omega) (by omega) (by omega) (by omega) (by omega) (by omega) (by omega) (by omega) (by omega) (by omega) (by omega) rfl hW.w2
  simp [stepI, doE, doR, doW, nextI, h1] at s1
  have s2 := stepM_at 9 8 (setF r 8 6) W 6 7 3 0 0 8 (by simp [setF]) (by omega) (by omega) (by omega) (by omega) (by omega) (by omega) (by omega) (by omega) (by omega) (by omega) (by omega) (by omega) rfl hW.w6
  have hat : IntKind.u64.wrap (r 0 + 8) % 65536 = 8 := by rw [h0, wrap_in _ (by omega) (by omega)]; rfl
  have hst : stE 9 8 8 = 0 := by simp [stE]
  simp [stepI, doE, doR, doW, nextI, setF, h0, hst, stW] at s2
  have s2' : (stepM 9 8 (setF r 8 6) W).e = 0 ∧ (stepM 9 8 (setF r 8 6) W).r = setF (setF r 8 6) 8 7 ∧ (stepM 9 8 (setF r 8 6) W).W = setF W 8 S := by
    have s2 := stepM_at 9 8 (setF r 8 6) W 6 7 3 0 0 8 (by simp [setF]) (by omega) (by omega) (by omega) (by omega) (by omega) (by omega) (by omega) (by omega) (by omega) (by omega) (by omega) (by omega) rfl hW.w6
    rw [s2]
    have e0 : setF r 8 6 (Int.toNat 0) = 0 := by simp [setF, h0]
    have e3 : setF r 8 6 (Int.toNat 3) = S := by simp [setF, h3]
    simp only [stepI, e0, e3]
    rw [show IntKind.u64.wrap (0 + 8) % 65536 = 8 from rfl]
    simp [doE, doR, doW, nextI, hst, stW]
  have s3 : (stepM 9 8 (setF (setF r 8 6) 8 7) (setF W 8 S)).e = 13 ∧ (stepM 9 8 (setF (setF r 8 6) 8 7) (setF W 8 S)).r = setF (setF r 8 6) 8 7 ∧ (stepM 9 8 (setF (setF r 8 6) 8 7) (setF W 8 S)).W = setF W 8 S := by
    have s := stepM_at 9 8 (setF (setF r 8 6) 8 7) (setF W 8 S) 7 0 0 0 0 0 (by simp [setF]) (by omega) (by omega) (by omega) (by omega) (by omega) (by omega) (by omega) (by omega) (by omega) (by omega) (by omega) (by omega) rfl (by simp [setF]; exact hW.w7)
    rw [s]
    simp [stepI, doE, doR, doW]
  refine ⟨setF (setF r 8 6) 8 7, setF W 8 S, ?_, by simp [setF, h3], by simp [setF], by simp [setF]⟩
  refine RunsTo.step (r1 := setF r 8 6) (W1 := W) (by rw [s1]) (by rw [s1]) (by rw [s1]) ?_
  refine RunsTo.step s2'.1 s2'.2.1 s2'.2.2 ?_
  exact RunsTo.stop (by omega) s3.1 s3.2.1 s3.2.2

def tri : Nat → Int
  | 0 => 0
  | k + 1 => tri k + (k + 1)
theorem tri_bd : ∀ k : Nat, 0 ≤ tri k ∧ tri k ≤ k * 1000 ∨ 900 < k
  | 0 => by simp [tri]
  | k + 1 => by
    rcases tri_bd k with h | h
    · by_cases hk : 900 < k + 1
      · exact Or.inr hk
      · left; simp only [tri]; omega
    · right; omega
theorem tri_eq (k : Nat) : 2 * tri k = k * (k + 1) := by
  induction k with
  | zero => simp [tri]
  | succ k ih =>
    simp only [tri]
    have e1 : ((k + 1 : Nat) : Int) * (((k + 1 : Nat) : Int) + 1) = k * (k + 1) + 2 * (k + 1) := by
      push_cast
      rw [Int.add_mul, Int.mul_add, Int.mul_add, Int.mul_add]
      omega
    rw [e1]
    omega

theorem sum_loop (W : Nat → Int) (n : Int) (hW : SumW W n) : ∀ (k f : Nat) (r : Nat → Int) (S : Int), k ≤ 300 → r 8 = 2 → r 1 = k → r 2 = 1 → r 0 = 0 → r 3 = S → 0 ≤ S → S + tri k < 1000000 →
    ∃ r' W', RunsTo 9 8 (f + 4 * k + 3) r W (4 * k + 2) 13 r' W' ∧ r' 3 = S + tri k ∧ r' 8 = 7 ∧ W' 8 = S + tri k
  | 0, f, r, S, _, h8, h1, h2, h0, h3, _, _ => by
    obtain ⟨r', W', h, a, b, c⟩ := sum_tail W n hW f r h8 (by simpa using h1) h0 S h3
    exact ⟨r', W', by simpa using h, by simp [tri, a], b, by simp [tri, c]⟩
  | k + 1, f, r, S, hk, h8, h1, h2, h0, h3, hS, hb => by
    have ht : 0 ≤ tri k := by rcases tri_bd k with h | h <;> omega
    simp only [tri] at hb
    have ih := sum_loop W n hW k f (setF (setF (setF (setF (setF (setF r 8 3) 3 (S + (k + 1))) 8 4) 1 k) 8 5) 8 2) (S + (k + 1)) (by omega) (by simp [setF]) (by simp [setF]) (by simp [setF, h2]) (by simp [setF, h0]) (by simp [setF]) (by omega) (by omega)
    obtain ⟨r', W', h, a, b, c⟩ := ih
    refine ⟨r', W', ?_, by simp only [tri]; omega, b, by simp only [tri]; omega⟩
    have s1 : (stepM 9 8 r W).e = 0 ∧ (stepM 9 8 r W).r = setF r 8 3 ∧ (stepM 9 8 r W).W = W := by
      rw [stepM_at 9 8 r W 2 9 1 0 0 6 h8 (by omega) (by omega) (by omega) (by omega) (by omega) (by omega) (by omega) (by omega) (by omega) (by omega) (by omega) (by omega) rfl hW.w2]
      have e1 : ¬ r (Int.toNat 1) = 0 := by show ¬ r 1 = 0; rw [h1]; omega
      simp [stepI, doE, doR, doW, nextI, e1]
      have e2 : ¬ r 1 = 0 := by rw [h1]; omega
      simp [e2]
    have s2 : (stepM 9 8 (setF r 8 3) W).e = 0 ∧ (stepM 9 8 (setF r 8 3) W).r = setF (setF (setF r 8 3) 3 (S + (k + 1))) 8 4 ∧ (stepM 9 8 (setF r 8 3) W).W = W := by
      rw [stepM_at 9 8 (setF r 8 3) W 3 2 3 3 1 0 (by simp [setF]) (by omega) (by omega) (by omega) (by omega) (by omega) (by omega) (by omega) (by omega) (by omega) (by omega) (by omega) (by omega) rfl hW.w3]
      have e3 : setF r 8 3 (Int.toNat 3) = S := by simp [setF, h3]
      have e1 : setF r 8 3 (Int.toNat 1) = k + 1 := by simp [setF]; rw [h1]; omega
      have e4 : rkI 2 S (k + 1) = S + (k + 1) := by simp only [rkI, if_true]; exact wrap_in _ (by omega) (by omega)
      simp only [stepI, e3, e1]
      simp only [doE, doR, doW, nextI]
      simp
      rw [e4]
    have s3 : (stepM 9 8 (setF (setF (setF r 8 3) 3 (S + (k + 1))) 8 4) W).e = 0 ∧ (stepM 9 8 (setF (setF (setF r 8 3) 3 (S + (k + 1))) 8 4) W).r = setF (setF (setF (setF (setF r 8 3) 3 (S + (k + 1))) 8 4) 1 k) 8 5 ∧ (stepM 9 8 (setF (setF (setF r 8 3) 3 (S + (k + 1))) 8 4) W).W = W := by
      rw [stepM_at 9 8 (setF (setF (setF r 8 3) 3 (S + (k + 1))) 8 4) W 4 3 1 1 2 0 (by simp [setF]) (by omega) (by omega) (by omega) (by omega) (by omega) (by omega) (by omega) (by omega) (by omega) (by omega) (by omega) (by omega) rfl hW.w4]
      have e1 : setF (setF (setF r 8 3) 3 (S + (k + 1))) 8 4 (Int.toNat 1) = k + 1 := by simp [setF]; rw [h1]; omega
      have e2 : setF (setF (setF r 8 3) 3 (S + (k + 1))) 8 4 (Int.toNat 2) = 1 := by simp [setF, h2]
      have e4 : rkI 3 ((k : Int) + 1) 1 = k := by
        have e : rkI 3 ((k : Int) + 1) 1 = IntKind.u64.wrap ((k : Int) + 1 - 1) := rfl
        rw [e, wrap_in _ (by omega) (by omega)]; omega
      simp only [stepI, e1, e2]
      simp only [doE, doR, doW, nextI]
      simp
      rw [e4]
    have s4 : (stepM 9 8 (setF (setF (setF (setF (setF r 8 3) 3 (S + (k + 1))) 8 4) 1 k) 8 5) W).e = 0 ∧ (stepM 9 8 (setF (setF (setF (setF (setF r 8 3) 3 (S + (k + 1))) 8 4) 1 k) 8 5) W).r = setF (setF (setF (setF (setF (setF r 8 3) 3 (S + (k + 1))) 8 4) 1 k) 8 5) 8 2 ∧ (stepM 9 8 (setF (setF (setF (setF (setF r 8 3) 3 (S + (k + 1))) 8 4) 1 k) 8 5) W).W = W := by
      rw [stepM_at 9 8 (setF (setF (setF (setF (setF r 8 3) 3 (S + (k + 1))) 8 4) 1 k) 8 5) W 5 8 0 0 0 2 (by simp [setF]) (by omega) (by omega) (by omega) (by omega) (by omega) (by omega) (by omega) (by omega) (by omega) (by omega) (by omega) (by omega) rfl hW.w5]
      simp only [stepI]
      simp only [doE, doR, doW, nextI]
      simp
    rw [show f + 4 * (k + 1) + 3 = (f + 4 * k + 3) + 1 + 1 + 1 + 1 by omega, show 4 * (k + 1) + 2 = (4 * k + 2) + 1 + 1 + 1 + 1 by omega]
    exact RunsTo.step s1.1 s1.2.1 s1.2.2 (RunsTo.step s2.1 s2.2.1 s2.2.2 (RunsTo.step s3.1 s3.2.1 s3.2.2 (RunsTo.step s4.1 s4.2.1 s4.2.2 h)))

/-- The whole program: from nought on. -/
theorem sum_all (W : Nat → Int) (k : Nat) (hk : k ≤ 300) (hW : SumW W k) : ∃ r' W', RunsTo 9 8 5000 (fun _ => 0) W (4 * k + 4) 13 r' W' ∧ r' 3 = tri k ∧ r' 8 = 7 ∧ W' 8 = tri k := by
  have ht : 0 ≤ tri k ∧ tri k ≤ 300000 := by rcases tri_bd k with h | h <;> omega
  obtain ⟨r', W', h, a, b, c⟩ := sum_loop W k hW k (4995 - 4 * k) (setF (setF (setF (setF (fun _ => 0) 1 k) 8 1) 2 1) 8 2) 0 hk (by simp [setF]) (by simp [setF]) (by simp [setF]) (by simp [setF]) (by simp [setF]) (by omega) (by omega)
  refine ⟨r', W', ?_, by omega, b, by omega⟩
  have s1 : (stepM 9 8 (fun _ => 0) W).e = 0 ∧ (stepM 9 8 (fun _ => 0) W).r = setF (setF (fun _ => 0) 1 k) 8 1 ∧ (stepM 9 8 (fun _ => 0) W).W = W := by
    rw [stepM_at 9 8 (fun _ => 0) W 0 1 1 0 0 k rfl (by omega) (by omega) (by omega) (by omega) (by omega) (by omega) (by omega) (by omega) (by omega) (by omega) (by omega) (by omega) (by simp [rightI, needB]) hW.w0]
    simp only [stepI]
    simp only [doE, doR, doW, nextI]
    simp
  have s2 : (stepM 9 8 (setF (setF (fun _ => 0) 1 k) 8 1) W).e = 0 ∧ (stepM 9 8 (setF (setF (fun _ => 0) 1 k) 8 1) W).r = setF (setF (setF (setF (fun _ => 0) 1 k) 8 1) 2 1) 8 2 ∧ (stepM 9 8 (setF (setF (fun _ => 0) 1 k) 8 1) W).W = W := by
    rw [stepM_at 9 8 (setF (setF (fun _ => 0) 1 k) 8 1) W 1 1 2 0 0 1 (by simp [setF]) (by omega) (by omega) (by omega) (by omega) (by omega) (by omega) (by omega) (by omega) (by omega) (by omega) (by omega) (by omega) rfl hW.w1]
    simp only [stepI]
    simp only [doE, doR, doW, nextI]
    simp
  have e : (5000 : Nat) = ((4995 - 4 * k) + 4 * k + 3) + 1 + 1 := by omega
  rw [e, show 4 * k + 4 = (4 * k + 2) + 1 + 1 by omega]
  exact RunsTo.step s1.1 s1.2.1 s1.2.2 (RunsTo.step s2.1 s2.2.1 s2.2.2 h)

end Go.Proofs.Ytfjfdhojhikgdaa
