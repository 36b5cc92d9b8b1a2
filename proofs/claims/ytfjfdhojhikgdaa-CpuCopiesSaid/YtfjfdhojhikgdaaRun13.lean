/- What cpu.Run returns and writes over flat words, by a walk over its text. -/
import Derived.Test.YtfjfdhojhikgdaaCpuStep
namespace Go.Proofs.Ytfjfdhojhikgdaa
set_option linter.unusedSimpArgs false
set_option linter.unusedVariables false
open Go.RowKit
set_option maxHeartbeats 4000000

/-- A run: how many steps were done, what is called, the error, registers, words, loads. -/
structure RunR where
  done : Nat
  call : Int
  e : Int
  r : Nat → Int
  W : Nat → Int
  lo : List Int
def runM (n : Nat) (first : Int) : Nat → (Nat → Int) → (Nat → Int) → RunR
  | 0, r, W => ⟨0, 0, 0, r, W, []⟩
  | k + 1, r, W =>
    if (stepM n first r W).e ≠ 0 then ⟨0, (stepM n first r W).call, (stepM n first r W).e, (stepM n first r W).r, (stepM n first r W).W, (stepM n first r W).lo⟩
    else
      let q := runM n first k (stepM n first r W).r (stepM n first r W).W
      ⟨q.done + 1, q.call, q.e, q.r, q.W, (stepM n first r W).lo ++ q.lo⟩
theorem stepI_lo (n : Nat) (first : Int) (r W : Nat → Int) (pc op a b c m : Int) : (stepI n first r W pc op a b c m).lo.length ≤ 2 := by
  unfold stepI
  simp only
  split <;> (simp [doL]; split <;> simp)
theorem stepM_lo (n : Nat) (first : Int) (r W : Nat → Int) : (stepM n first r W).lo.length ≤ 2 := by
  unfold stepM
  split
  · simp
  · split
    · simp
    · exact stepI_lo _ _ _ _ _ _ _ _ _ _

def RunPost (pa pf bk base n cap : Nat) (first : Int) (Ls : List Int) (lb : Option Nat) (w : World) (R : RunR) (e : Ending) (w' : World) : Prop :=
  e = .returned (.tuple #[.int .i64 R.done, .int .i64 R.call, .int .i64 R.e]) ∧ RegsIn w' pa R.r ∧ (∃ lb', FlatIn w' pf bk base n cap R.W first (Ls ++ R.lo) lb' ∧ NewB w lb lb') ∧ Touch (TS pa pf bk lb) w w'

/-- What is left of a run behind d steps. -/
def LeftR (n : Nat) (first : Int) (r W : Nat → Int) (Ls : List Int) (m d : Nat) (rc Wc : Nat → Int) (Lc : List Int) : Prop :=
  ∃ L, Lc = Ls ++ L ∧ L.length ≤ 2 * d ∧ (runM n first m r W).done = d + (runM n first (m - d) rc Wc).done ∧ (runM n first m r W).call = (runM n first (m - d) rc Wc).call ∧ (runM n first m r W).e = (runM n first (m - d) rc Wc).e ∧
    (runM n first m r W).r = (runM n first (m - d) rc Wc).r ∧ (runM n first m r W).W = (runM n first (m - d) rc Wc).W ∧ (runM n first m r W).lo = L ++ (runM n first (m - d) rc Wc).lo
theorem LeftR.start (n : Nat) (first : Int) (r W : Nat → Int) (Ls : List Int) (m : Nat) : LeftR n first r W Ls m 0 r W Ls := ⟨[], by simp, by simp, by simp, rfl, rfl, rfl, rfl, by simp⟩
theorem LeftR.step {n : Nat} {first : Int} {r W : Nat → Int} {Ls : List Int} {m d : Nat} {rc Wc : Nat → Int} {Lc : List Int} (h : LeftR n first r W Ls m d rc Wc Lc) (hd : d < m) (he : (stepM n first rc Wc).e = 0) :
    LeftR n first r W Ls m (d + 1) (stepM n first rc Wc).r (stepM n first rc Wc).W (Lc ++ (stepM n first rc Wc).lo) := by
  obtain ⟨L, h1, h2, h3, h4, h5, h6, h7, h8⟩ := h
  obtain ⟨q, hq⟩ : ∃ q, m - d = q + 1 := ⟨m - d - 1, by omega⟩
  have hq2 : m - (d + 1) = q := by omega
  rw [hq] at h3 h4 h5 h6 h7 h8
  simp only [runM, he, ne_eq, not_true, if_false] at h3 h4 h5 h6 h7 h8
  unfold LeftR
  rw [hq2]
  refine ⟨L ++ (stepM n first rc Wc).lo, by rw [h1]; simp, by have := stepM_lo n first rc Wc; simp; omega, by omega, h4, h5, h6, h7, by rw [h8]; simp⟩
theorem LeftR.stop {n : Nat} {first : Int} {r W : Nat → Int} {Ls : List Int} {m d : Nat} {rc Wc : Nat → Int} {Lc : List Int} (h : LeftR n first r W Ls m d rc Wc Lc) (hd : d < m) (he : (stepM n first rc Wc).e ≠ 0) :
    (runM n first m r W).done = d ∧ (runM n first m r W).call = (stepM n first rc Wc).call ∧ (runM n first m r W).e = (stepM n first rc Wc).e ∧ (runM n first m r W).r = (stepM n first rc Wc).r ∧ (runM n first m r W).W = (stepM n first rc Wc).W ∧ Lc ++ (stepM n first rc Wc).lo = Ls ++ (runM n first m r W).lo := by
  obtain ⟨L, h1, h2, h3, h4, h5, h6, h7, h8⟩ := h
  obtain ⟨q, hq⟩ : ∃ q, m - d = q + 1 := ⟨m - d - 1, by omega⟩
  rw [hq] at h3 h4 h5 h6 h7 h8
  simp only [runM, he, ne_eq, not_false_eq_true, if_true] at h3 h4 h5 h6 h7 h8
  exact ⟨by omega, h4, h5, h6, h7, by rw [h1, h8]; simp⟩
theorem LeftR.full {n : Nat} {first : Int} {r W : Nat → Int} {Ls : List Int} {m : Nat} {rc Wc : Nat → Int} {Lc : List Int} (h : LeftR n first r W Ls m m rc Wc Lc) :
    (runM n first m r W).done = m ∧ (runM n first m r W).call = 0 ∧ (runM n first m r W).e = 0 ∧ (runM n first m r W).r = rc ∧ (runM n first m r W).W = Wc ∧ Lc = Ls ++ (runM n first m r W).lo := by
  obtain ⟨L, h1, h2, h3, h4, h5, h6, h7, h8⟩ := h
  rw [Nat.sub_self] at h3 h4 h5 h6 h7 h8
  simp only [runM] at h3 h4 h5 h6 h7 h8
  exact ⟨by omega, h4, h5, h6, h7, by rw [h1, h8]; simp⟩

set_option maxRecDepth 100000 in
theorem run_walk (pa pf bk base n cap : Nat) (W r : Nat → Int) (first : Int) (Ls : List Int) (lb : Option Nat) (most : Int) (w : World)
    (hr : RegsIn w pa r) (hf : FlatIn w pf bk base n cap W first Ls lb) (hl : Ls.length ≤ 100000) (hm : most ≤ 100000) (hpa : pa < base) (n1 : pa ≠ pf) (n2 : pa ≠ bk) (R : RunR) (hR : runM n first most.toNat r W = R) :
    Calls Try.prog 15 #[.pointer (some ⟨pa, 0, none⟩), .iface 28 (.pointer (some ⟨pf, 0, none⟩)), .int .i64 most] w (RunPost pa pf bk base n cap first Ls lb w R) := by
  have HR := Lib.hid hR
  clear hR
  go_enter Try.func15, Try.ntmps15
  go_wp2_with (fail)
  go_loopw [6] (fun i wr => ∃ (d : Nat) (rc Wc : Nat → Int) (Lc : List Int) (lc : Option Nat), i = .int .i64 d ∧ d ≤ most.toNat ∧ Hid (LeftR n first r W Ls most.toNat d rc Wc Lc) ∧ RegsIn wr pa rc ∧ FlatIn wr pf bk base n cap Wc first Lc lc ∧ NewB w lb lc ∧ Touch (TS pa pf bk lb) w wr) (fun i _ => most.toNat - (intOf i).toNat)
  case atStart => exact ⟨0, r, W, Ls, lb, rfl, by omega, Lib.hid (LeftR.start _ _ _ _ _ _), hr, hf, NewB.refl _ _, Touch.refl _ _⟩
  case round =>
    obtain ⟨d, rc, Wc, Lc, lc, rfl, hd, HL, hrr, hfr, hnr, htr⟩ := hrel
    have hLc : Lc.length ≤ 300000 := by
      obtain ⟨L, h1, h2, _⟩ := HL.out
      rw [h1]; simp; omega
    by_cases hlt : (d : Int) < most
    · obtain ⟨Q, hQ⟩ : ∃ Q, Q = stepM n first rc Wc := ⟨_, rfl⟩
      have HQ := Lib.hid hQ
      clear hQ
      go_wp2_with (fail)
      refine (step_walk pa pf bk base n cap Wc rc first Lc lc _ hrr hfr (by omega) hpa n1 n2 Q HQ.out.symm).mono ?_
      rintro e w2 ⟨rfl, hr2, ⟨lb2, hf2, hn2⟩, ht2⟩
      have hts : Touch (TS pa pf bk lb) w w2 := htr.trans' ht2 (fun j hj h => h.old hnr hj)
      have hnb : NewB w lb lb2 := hnr.trans hn2 htr.size
      by_cases he : Q.e = 0
      · have he' : (Q.e != 0) = false := by simp [he]
        have HL2 := LeftR.step HL.out (by omega) (by rw [← HQ.out]; exact he)
        rw [← HQ.out] at HL2
        have HL3 := Lib.hid HL2
        clear HL2 he
        go_wp2_with (fail)
        go_roundw
        case rel => exact ⟨d + 1, Q.r, Q.W, Lc ++ Q.lo, lb2, by go_num, by omega, HL3, hr2, hf2, hnb, hts⟩
        case measure => simp [intOf]; omega
      · have he' : (Q.e != 0) = true := by simp [he]
        have HL2 := LeftR.stop HL.out (by omega) (by rw [← HQ.out]; exact he)
        rw [← HQ.out, HR.out] at HL2
        have HL3 := Lib.hid HL2
        clear HL2 he
        go_wp2_with (fail)
        go_ret3
        obtain ⟨g1, g2, g3, g4, g5, g6⟩ := HL3.out
        exact ⟨by rw [g1, g2, g3]; rfl, by rw [g4]; exact hr2, ⟨lb2, by rw [g5, ← g6]; exact hf2, hnb⟩, hts⟩
    · have hdm : d = most.toNat := by omega
      have HL2 := HL.out
      rw [hdm] at HL2
      have HL4 := HL2.full
      rw [HR.out] at HL4
      have HL3 := Lib.hid HL4
      have HD := Lib.hid hdm
      clear HL2 HL4 hdm
      go_wp2_with (fail)
      go_ret3
      obtain ⟨g1, g2, g3, g4, g5, g6⟩ := HL3.out
      exact ⟨by rw [g1, g2, g3, ← HD.out]; rfl, by rw [g4]; exact hrr, ⟨lc, by rw [g5, ← g6]; exact hfr, hnr⟩, htr⟩

end Go.Proofs.Ytfjfdhojhikgdaa
