/- Plain facts on a program that copies words. -/
import Derived.Test.YtfjfdhojhikgdaaPlain13
namespace Go.Proofs.Ytfjfdhojhikgdaa
set_option linter.unusedSimpArgs false
set_option linter.unusedVariables false
open Go.RowKit
set_option maxHeartbeats 4000000

/-- The words of the program that copies. -/
structure CopyW (W : Nat → Int) (n : Int) : Prop where
  w0 : W 0 = 1 + 256 * 1 + 2048 * 0 + 16384 * 0 + 16777216 * n
  w1 : W 1 = 1 + 256 * 2 + 2048 * 0 + 16384 * 0 + 16777216 * 1
  w2 : W 2 = 6 + 256 * 4 + 2048 * 3 + 16384 * 0 + 16777216 * 20
  w3 : W 3 = 7 + 256 * 4 + 2048 * 3 + 16384 * 0 + 16777216 * 60
  w4 : W 4 = 2 + 256 * 3 + 2048 * 3 + 16384 * 2 + 16777216 * 0
  w5 : W 5 = 3 + 256 * 1 + 2048 * 1 + 16384 * 2 + 16777216 * 0
  w6 : W 6 = 9 + 256 * 1 + 2048 * 0 + 16384 * 0 + 16777216 * 8
  w7 : W 7 = 8 + 256 * 0 + 2048 * 0 + 16384 * 0 + 16777216 * 2
  w8 : W 8 = 0 + 256 * 0 + 2048 * 0 + 16384 * 0 + 16777216 * 0
theorem CopyW.set {W : Nat → Int} {n : Int} (h : CopyW W n) (a : Nat) (ha : 60 ≤ a) (x : Int) : CopyW (setF W a x) n := by
  refine ⟨?_, ?_, ?_, ?_, ?_, ?_, ?_, ?_, ?_⟩ <;> (unfold setF; rw [if_neg (by omega)])
  all_goals first | exact h.w0 | exact h.w1 | exact h.w2 | exact h.w3 | exact h.w4 | exact h.w5 | exact h.w6 | exact h.w7 | exact h.w8

/-- Registers by their places. -/
def CR (r : Nat → Int) (pc k i x : Int) : Prop := r 8 = pc ∧ r 1 = k ∧ r 2 = 1 ∧ r 3 = i ∧ r 4 = x ∧ r 0 = 0

theorem cp_load (W r : Nat → Int) (n : Int) (k i x : Int) (hW : CopyW W n) (h : CR r 2 k i x) (h0 : 0 ≤ i) (h1 : i < 30) :
    ∃ r', (stepM 100 60 r W).e = 0 ∧ (stepM 100 60 r W).r = r' ∧ (stepM 100 60 r W).W = W ∧ CR r' 3 k i (W (i + 20).toNat) := by
  obtain ⟨e8, e1, e2, e3, e4, e0⟩ := h
  refine ⟨setF (setF r 4 (W (i + 20).toNat)) 8 3, ?_⟩
  have hat : IntKind.u64.wrap (i + 20) % 65536 = i + 20 := by rw [wrap_in _ (by omega) (by omega)]; omega
  have hl : ldE 100 (i + 20) = 0 := by unfold ldE; rw [if_pos ⟨by omega, by omega⟩]
  have b3 : r (Int.toNat 3) = i := e3
  rw [stepM_at 100 60 r W 2 6 4 3 0 20 e8 (by omega) (by omega) (by omega) (by omega) (by omega) (by omega) (by omega) (by omega) (by omega) (by omega) (by omega) (by omega) rfl hW.w2]
  simp only [stepI, b3, hat]
  simp [doE, doR, doW, nextI, hl]
  exact ⟨by simp [setF], by simp [setF, e1], by simp [setF, e2], by simp [setF, e3], by simp [setF], by simp [setF, e0]⟩

theorem cp_store (W r : Nat → Int) (n : Int) (k i x : Int) (hW : CopyW W n) (h : CR r 3 k i x) (h0 : 0 ≤ i) (h1 : i < 30) :
    ∃ r', (stepM 100 60 r W).e = 0 ∧ (stepM 100 60 r W).r = r' ∧ (stepM 100 60 r W).W = setF W (i + 60).toNat x ∧ CR r' 4 k i x := by
  obtain ⟨e8, e1, e2, e3, e4, e0⟩ := h
  refine ⟨setF r 8 4, ?_⟩
  have hat : IntKind.u64.wrap (i + 60) % 65536 = i + 60 := by rw [wrap_in _ (by omega) (by omega)]; omega
  have hl : stE 100 60 (i + 60) = 0 := by unfold stE; rw [if_neg (by omega), if_neg (by omega)]
  have b3 : r (Int.toNat 3) = i := e3
  have b4 : r (Int.toNat 4) = x := e4
  rw [stepM_at 100 60 r W 3 7 4 3 0 60 e8 (by omega) (by omega) (by omega) (by omega) (by omega) (by omega) (by omega) (by omega) (by omega) (by omega) (by omega) (by omega) rfl hW.w3]
  simp only [stepI, b3, b4, hat]
  simp [doE, doR, doW, nextI, hl, stW]
  exact ⟨by simp [setF], by simp [setF, e1], by simp [setF, e2], by simp [setF, e3], by simp [setF, e4], by simp [setF, e0]⟩

theorem cp_add (W r : Nat → Int) (n : Int) (k i x : Int) (hW : CopyW W n) (h : CR r 4 k i x) (h0 : 0 ≤ i) (h1 : i < 30) :
    ∃ r', (stepM 100 60 r W).e = 0 ∧ (stepM 100 60 r W).r = r' ∧ (stepM 100 60 r W).W = W ∧ CR r' 5 k (i + 1) x := by
  obtain ⟨e8, e1, e2, e3, e4, e0⟩ := h
  refine ⟨setF (setF r 3 (i + 1)) 8 5, ?_⟩
  have b3 : r (Int.toNat 3) = i := e3
  have b2 : r (Int.toNat 2) = 1 := e2
  have e : rkI 2 i 1 = i + 1 := by (have q : rkI 2 i 1 = IntKind.u64.wrap (i + 1) := rfl); rw [q, wrap_in _ (by omega) (by omega)]
  rw [stepM_at 100 60 r W 4 2 3 3 2 0 e8 (by omega) (by omega) (by omega) (by omega) (by omega) (by omega) (by omega) (by omega) (by omega) (by omega) (by omega) (by omega) rfl hW.w4]
  simp only [stepI, b3, b2]
  simp [doE, doR, doW, nextI, e]
  exact ⟨by simp [setF], by simp [setF, e1], by simp [setF, e2], by simp [setF], by simp [setF, e4], by simp [setF, e0]⟩

theorem cp_sub (W r : Nat → Int) (n : Int) (k i x : Int) (hW : CopyW W n) (h : CR r 5 k i x) (h0 : 1 ≤ k) (h1 : k ≤ 30) :
    ∃ r', (stepM 100 60 r W).e = 0 ∧ (stepM 100 60 r W).r = r' ∧ (stepM 100 60 r W).W = W ∧ CR r' 6 (k - 1) i x := by
  obtain ⟨e8, e1, e2, e3, e4, e0⟩ := h
  refine ⟨setF (setF r 1 (k - 1)) 8 6, ?_⟩
  have b1 : r (Int.toNat 1) = k := e1
  have b2 : r (Int.toNat 2) = 1 := e2
  have e : rkI 3 k 1 = k - 1 := by (have q : rkI 3 k 1 = IntKind.u64.wrap (k - 1) := rfl); rw [q, wrap_in _ (by omega) (by omega)]
  rw [stepM_at 100 60 r W 5 3 1 1 2 0 e8 (by omega) (by omega) (by omega) (by omega) (by omega) (by omega) (by omega) (by omega) (by omega) (by omega) (by omega) (by omega) rfl hW.w5]
  simp only [stepI, b1, b2]
  simp [doE, doR, doW, nextI, e]
  exact ⟨by simp [setF], by simp [setF], by simp [setF, e2], by simp [setF, e3], by simp [setF, e4], by simp [setF, e0]⟩

theorem cp_zero (W r : Nat → Int) (n : Int) (k i x : Int) (hW : CopyW W n) (h : CR r 6 k i x) :
    ∃ r', (stepM 100 60 r W).e = 0 ∧ (stepM 100 60 r W).r = r' ∧ (stepM 100 60 r W).W = W ∧ CR r' (if k = 0 then 8 else 7) k i x := by
  obtain ⟨e8, e1, e2, e3, e4, e0⟩ := h
  refine ⟨setF r 8 (if k = 0 then 8 else 7), ?_⟩
  have b1 : r (Int.toNat 1) = k := e1
  rw [stepM_at 100 60 r W 6 9 1 0 0 8 e8 (by omega) (by omega) (by omega) (by omega) (by omega) (by omega) (by omega) (by omega) (by omega) (by omega) (by omega) (by omega) rfl hW.w6]
  simp only [stepI]
  by_cases hk : k = 0
  · have b1' : r 1 = 0 := by rw [e1, hk]
    simp [doE, doR, doW, nextI, b1', hk]
    exact ⟨by simp [setF], by simp [setF, b1'], by simp [setF, e2], by simp [setF, e3], by simp [setF, e4], by simp [setF, e0]⟩
  · have b1' : ¬ r 1 = 0 := by rw [e1]; exact hk
    simp [doE, doR, doW, nextI, b1', hk]
    exact ⟨by simp [setF], by simp [setF, e1], by simp [setF, e2], by simp [setF, e3], by simp [setF, e4], by simp [setF, e0]⟩

theorem cp_jump (W r : Nat → Int) (n : Int) (k i x : Int) (hW : CopyW W n) (h : CR r 7 k i x) :
    ∃ r', (stepM 100 60 r W).e = 0 ∧ (stepM 100 60 r W).r = r' ∧ (stepM 100 60 r W).W = W ∧ CR r' 2 k i x := by
  obtain ⟨e8, e1, e2, e3, e4, e0⟩ := h
  refine ⟨setF r 8 2, ?_⟩
  rw [stepM_at 100 60 r W 7 8 0 0 0 2 e8 (by omega) (by omega) (by omega) (by omega) (by omega) (by omega) (by omega) (by omega) (by omega) (by omega) (by omega) (by omega) rfl hW.w7]
  simp only [stepI]
  simp [doE, doR, doW, nextI]
  exact ⟨by simp [setF], by simp [setF, e1], by simp [setF, e2], by simp [setF, e3], by simp [setF, e4], by simp [setF, e0]⟩

theorem cp_halt (W r : Nat → Int) (n : Int) (k i x : Int) (hW : CopyW W n) (h : CR r 8 k i x) :
    (stepM 100 60 r W).e = 13 ∧ (stepM 100 60 r W).r = r ∧ (stepM 100 60 r W).W = W := by
  obtain ⟨e8, e1, e2, e3, e4, e0⟩ := h
  rw [stepM_at 100 60 r W 8 0 0 0 0 0 e8 (by omega) (by omega) (by omega) (by omega) (by omega) (by omega) (by omega) (by omega) (by omega) (by omega) (by omega) (by omega) rfl hW.w8]
  simp only [stepI]
  simp [doE, doR, doW]

/-- The words behind copying m of them from i on. -/
def copied (W : Nat → Int) (i m : Nat) : Nat → Int := fun a => if 60 + i ≤ a ∧ a < 60 + i + m then W (a - 40) else W a
theorem copied_step (W : Nat → Int) (i m : Nat) (h : i + m < 30) : copied (setF W (60 + i) (W (20 + i))) (i + 1) m = copied W i (m + 1) := by
  funext a
  unfold copied setF
  by_cases e : a = 60 + i
  · subst e
    have q1 : ¬ (60 + (i + 1) ≤ 60 + i ∧ 60 + i < 60 + (i + 1) + m) := by omega
    have q2 : 60 + i ≤ 60 + i ∧ 60 + i < 60 + i + (m + 1) := by omega
    rw [if_neg q1, if_pos rfl, if_pos q2]
    congr 1; omega
  · by_cases h1 : 60 + (i + 1) ≤ a ∧ a < 60 + (i + 1) + m
    · have q1 : ¬ a - 40 = 60 + i := by omega
      have q2 : 60 + i ≤ a ∧ a < 60 + i + (m + 1) := by omega
      rw [if_pos h1, if_neg q1, if_pos q2]
    · have q2 : ¬ (60 + i ≤ a ∧ a < 60 + i + (m + 1)) := by omega
      rw [if_neg h1, if_neg e, if_neg q2]

theorem copy_loop (n : Int) : ∀ (m i f : Nat) (r W : Nat → Int) (x : Int), i + m < 30 → CopyW W n → CR r 2 (m + 1) i x →
    ∃ d r', RunsTo 100 60 (f + 6 * m + 6) r W d 13 r' (copied W i (m + 1)) ∧ r' 8 = 8 ∧ r' 3 = i + m + 1
  | m, i, f, r, W, x, him, hW, hr => by
    obtain ⟨r1, a1, a2, a3, h1⟩ := cp_load W r n _ _ _ hW hr (by omega) (by omega)
    have e20 : ((i : Int) + 20).toNat = 20 + i := by omega
    rw [e20] at h1
    obtain ⟨r2, b1, b2, b3, h2⟩ := cp_store W r1 n _ _ _ hW h1 (by omega) (by omega)
    have e60 : ((i : Int) + 60).toNat = 60 + i := by omega
    rw [e60] at b3
    have hW2 := hW.set (60 + i) (by omega) (W (20 + i))
    obtain ⟨r3, c1, c2, c3, h3⟩ := cp_add _ r2 n _ _ _ hW2 h2 (by omega) (by omega)
    obtain ⟨r4, d1, d2, d3, h4⟩ := cp_sub _ r3 n _ _ _ hW2 h3 (by omega) (by omega)
    obtain ⟨r5, f1, f2, f3, h5⟩ := cp_zero _ r4 n _ _ _ hW2 h4
    match m, him, hr, h5 with
    | 0, him, hr, h5 =>
      have hz : ((0 : Nat) : Int) + 1 - 1 = 0 := by omega
      rw [if_pos hz] at h5
      obtain ⟨g1, g2, g3⟩ := cp_halt _ r5 n _ _ _ hW2 h5
      refine ⟨0 + 1 + 1 + 1 + 1 + 1, r5, ?_, h5.1, by rw [h5.2.2.2.1]; omega⟩
      have hc : copied W i (0 + 1) = setF W (60 + i) (W (20 + i)) := by
        rw [← copied_step W i 0 (by omega)]
        funext a
        unfold copied
        rw [if_neg (by omega)]
      rw [hc]
      rw [show f + 6 * 0 + 6 = f + 1 + 1 + 1 + 1 + 1 + 1 by omega]
      exact RunsTo.step a1 a2 a3 (RunsTo.step b1 b2 b3 (RunsTo.step c1 c2 c3 (RunsTo.step d1 d2 d3 (RunsTo.step f1 f2 f3 (RunsTo.stop (by omega) g1 g2 g3)))))
    | m + 1, him, hr, h5 =>
      have hz : ¬ (((m + 1 : Nat) : Int) + 1 - 1 = 0) := by omega
      rw [if_neg hz] at h5
      obtain ⟨r6, g1, g2, g3, h6⟩ := cp_jump _ r5 n _ _ _ hW2 h5
      have h6' : CR r6 2 (m + 1) ((i + 1 : Nat) : Int) (W (20 + i)) := by
        obtain ⟨q1, q2, q3, q4, q5, q6⟩ := h6
        exact ⟨q1, by rw [q2]; omega, q3, by rw [q4]; omega, q5, q6⟩
      obtain ⟨d, r', hrun, z8, z3⟩ := copy_loop n m (i + 1) f r6 _ _ (by omega) hW2 h6'
      rw [copied_step W i (m + 1) (by omega)] at hrun
      refine ⟨d + 1 + 1 + 1 + 1 + 1 + 1, r', ?_, z8, by rw [z3]; omega⟩
      rw [show f + 6 * (m + 1) + 6 = (f + 6 * m + 6) + 1 + 1 + 1 + 1 + 1 + 1 by omega]
      exact RunsTo.step a1 a2 a3 (RunsTo.step b1 b2 b3 (RunsTo.step c1 c2 c3 (RunsTo.step d1 d2 d3 (RunsTo.step f1 f2 f3 (RunsTo.step g1 g2 g3 hrun)))))

theorem copy_all (W : Nat → Int) (n : Nat) (h1 : 1 ≤ n) (h2 : n ≤ 30) (hW : CopyW W n) : ∃ d r', RunsTo 100 60 1000 (fun _ => 0) W d 13 r' (copied W 0 n) ∧ r' 8 = 8 ∧ r' 3 = n := by
  obtain ⟨m, rfl⟩ : ∃ m, n = m + 1 := ⟨n - 1, by omega⟩
  have s1 : (stepM 100 60 (fun _ => 0) W).e = 0 ∧ (stepM 100 60 (fun _ => 0) W).r = setF (setF (fun _ => 0) 1 ((m + 1 : Nat) : Int)) 8 1 ∧ (stepM 100 60 (fun _ => 0) W).W = W := by
    rw [stepM_at 100 60 (fun _ => 0) W 0 1 1 0 0 ((m + 1 : Nat) : Int) rfl (by omega) (by omega) (by omega) (by omega) (by omega) (by omega) (by omega) (by omega) (by omega) (by omega) (by omega) (by omega) (by simp [rightI, needB]) hW.w0]
    simp only [stepI]
    simp only [doE, doR, doW, nextI]
    simp
  have s2 : (stepM 100 60 (setF (setF (fun _ => 0) 1 ((m + 1 : Nat) : Int)) 8 1) W).e = 0 ∧ (stepM 100 60 (setF (setF (fun _ => 0) 1 ((m + 1 : Nat) : Int)) 8 1) W).r = setF (setF (setF (setF (fun _ => 0) 1 ((m + 1 : Nat) : Int)) 8 1) 2 1) 8 2 ∧ (stepM 100 60 (setF (setF (fun _ => 0) 1 ((m + 1 : Nat) : Int)) 8 1) W).W = W := by
    rw [stepM_at 100 60 (setF (setF (fun _ => 0) 1 ((m + 1 : Nat) : Int)) 8 1) W 1 1 2 0 0 1 (by simp [setF]) (by omega) (by omega) (by omega) (by omega) (by omega) (by omega) (by omega) (by omega) (by omega) (by omega) (by omega) (by omega) rfl hW.w1]
    simp only [stepI]
    simp only [doE, doR, doW, nextI]
    simp
  obtain ⟨d, r', h, a, b⟩ := copy_loop ((m + 1 : Nat) : Int) m 0 (992 - 6 * m) (setF (setF (setF (setF (fun _ => 0) 1 ((m + 1 : Nat) : Int)) 8 1) 2 1) 8 2) W 0 (by omega) hW ⟨by simp [setF], by simp [setF], by simp [setF], by simp [setF], by simp [setF], by simp [setF]⟩
  refine ⟨d + 1 + 1, r', ?_, a, by rw [b]; omega⟩
  have e : (1000 : Nat) = ((992 - 6 * m) + 6 * m + 6) + 1 + 1 := by omega
  rw [e]
  exact RunsTo.step s1.1 s1.2.1 s1.2.2 (RunsTo.step s2.1 s2.2.1 s2.2.2 h)

end Go.Proofs.Ytfjfdhojhikgdaa
