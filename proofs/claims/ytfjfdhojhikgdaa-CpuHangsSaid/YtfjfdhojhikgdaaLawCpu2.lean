/- A copy of words, laid by append; trunnionref13's Run: by walks over their text. -/
import Derived.Test.YtfjfdhojhikgdaaLawCpu
import Derived.Test.YtfjfdhojhikgdaaRef13
namespace Go.Proofs.Ytfjfdhojhikgdaa
set_option linter.unusedSimpArgs false
set_option linter.unusedVariables false
open Go.RowKit
set_option maxHeartbeats 8000000

theorem wpList_copy_words {ops : Array Oper} {rest : List Oper} {o : Oper} {act : Act} {Q : Exit → Act → World → Prop} (hgd : o.guard = none) (s x : Operand)
    (ho : o.op = .call { callee := .builtin .append, args := #[s, x], argTypes := #[26, 26] }) (w0 : World) (a : Option Addr) (n cap : Nat) (V : Nat → Int)
    (hs : act.eval s = .slice (some ⟨w0.heap.size, 0, none⟩) 0 0) (hx : act.eval x = .slice a n cap) (ha : WArg w0 a n V) (hnil : a = none → n = 0 ∧ cap = 0) (hV : ∀ i, 0 ≤ V i ∧ V i < 18446744073709551616) (hn : n ≤ 1000)
    (h : ∀ g c w1, WordsIn w1 g n V → w0.heap.size ≤ g → Below w0.heap.size w0 w1 → wpList Try.prog ops Q rest (act.put o.dst (.slice (some ⟨g, 0, none⟩) n c)) w1) : wpList Try.prog ops Q (o :: rest) act (w0.alloc (.cells #[] 22)) := by
  obtain ⟨i0, hi, hz0, hz1, hz2⟩ := info_parts info_u64
  have hown0 : (w0.alloc (.cells #[] 22)).ownsRow w0.heap.size 22 1 (.slice (some ⟨w0.heap.size, 0, none⟩) 0 0) 0 [] :=
    ⟨by simp, .inr ⟨w0.heap.size, 0, #[], rfl, Nat.le_refl _, heap_alloc_new w0 _, by omega, by unfold maxLen; omega, by simp, by simp⟩⟩
  rcases a with _ | ad
  · obtain ⟨rfl, rfl⟩ := hnil rfl
    refine wpList_append_own_none hgd s x 26 ho w0.heap.size 22 i0 1 Try.underlying26 hi _ 0 [] hs hown0 hx ?_
    exact h w0.heap.size 0 _ ⟨fun i hi => by omega, fun i hi => by omega, hV, by simp⟩ (Nat.le_refl _) ((Below.refl _ _).alloc (Nat.le_refl _) _)
  · have hsrc : ∀ j u, ((List.range n).map fun i => Value.int .u64 (V i))[j]? = some u → (w0.alloc (.cells #[] 22)).cell? (ad.add j) = some u := by
      intro j u hu
      rcases ha with h0 | ⟨b, off, h, hb, hc⟩
      · subst h0; simp at hu
      · cases h
        refine cells_src (fun i hi => ?_) j u hu
        rw [World.cell?_alloc_lt _ _ _ hb]; exact hc i hi
    refine wpList_append_own _ hgd s x 26 ho w0.heap.size 22 i0 (.int .u64 0) 1 8 Try.underlying26 hi hz0 hz1 hz2 rfl (by decide) (.slice (some ⟨w0.heap.size, 0, none⟩) 0 0) 0 [] hs hown0 ad n cap ((List.range n).map fun i => Value.int .u64 (V i)) hx (by simp) hsrc (fun x hx => by simp at hx; obtain ⟨_, _, rfl⟩ := hx; rfl) (by unfold maxLen; omega) (by omega) (by simp) ?_
    intro v' w1 hown1 hgrow1 hnil1
    simp only [Nat.zero_add, List.nil_append] at hown1
    have hb1 : Below w0.heap.size w0 w1 := Below.grown ((Below.refl _ _).alloc (Nat.le_refl _) _) hgrow1 (by simp) (fun k hk => by simp [Value.ownBlock] at hk; omega)
    have hv' : ∃ a c, v' = .slice (some a) n c := by
      obtain ⟨a, c, rfl⟩ := own_slice hown1
      rcases a with _ | a
      · exfalso
        rcases hown1.2 with ⟨h1, h2⟩ | ⟨g, cap', cur, h1, _⟩
        · have := (hnil1.1 (by rw [h1])).1; simp at this
        · cases h1
      · exact ⟨a, c, rfl⟩
    obtain ⟨g, c1, rfl, hg, hws⟩ := own_words hown1 (by obtain ⟨a, c, h⟩ := hv'; exact ⟨a, n, c, h⟩) hV
    exact h g c1 w1 hws hg hb1

/-- What is left of a run behind d steps, but for what was loaded. -/
def LeftQ (n : Nat) (first : Int) (r W : Nat → Int) (m d : Nat) (rc Wc : Nat → Int) : Prop := ∃ Lc, LeftR n first r W [] m d rc Wc Lc

def RrunPost (pa pg bg n cap : Nat) (first : Int) (w : World) (R : RunR) (e : Ending) (w' : World) : Prop :=
  e = .returned (.tuple #[.int .i64 R.done, .int .i64 R.call, .int .i64 R.e]) ∧ RegsIn w' pa R.r ∧ RflatIn w' pg bg n cap R.W first ∧ Touch (fun b => b = pa ∨ b = bg) w w'

set_option maxRecDepth 100000 in
theorem rrun_walk (pa pg bg n cap : Nat) (W r : Nat → Int) (first most : Int) (w : World)
    (hr : RegsIn w pa r) (hf : RflatIn w pg bg n cap W first) (hm : most ≤ 100000) (n1 : pa ≠ pg) (n2 : pa ≠ bg) (R : RunR) (hR : runM n first most.toNat r W = R) :
    Calls Try.prog 16 #[.pointer (some ⟨pa, 0, none⟩), .pointer (some ⟨pg, 0, none⟩), .int .i64 most] w (RrunPost pa pg bg n cap first w R) := by
  have HR := Lib.hid hR
  clear hR
  go_enter Try.func16, Try.ntmps16
  go_wp2_with (fail)
  go_loopw [9] (fun i wr => ∃ (d : Nat) (rc Wc : Nat → Int), i = .int .i64 d ∧ d ≤ most.toNat ∧ Hid (LeftQ n first r W most.toNat d rc Wc) ∧ RegsIn wr pa rc ∧ RflatIn wr pg bg n cap Wc first ∧ Touch (fun b => b = pa ∨ b = bg) w wr) (fun i _ => most.toNat - (intOf i).toNat)
  case atStart => exact ⟨0, r, W, rfl, by omega, Lib.hid ⟨[], LeftR.start _ _ _ _ _ _⟩, hr, hf, Touch.refl _ _⟩
  case round =>
    obtain ⟨d, rc, Wc, rfl, hd, HL, hrr, hfr, htr⟩ := hrel
    by_cases hlt : (d : Int) < most
    · obtain ⟨Q, hQ⟩ : ∃ Q, Q = stepM n first rc Wc := ⟨_, rfl⟩
      have HQ := Lib.hid hQ
      clear hQ
      go_wp2_with (fail)
      refine (rstep_walk pa pg bg n cap Wc rc first _ hrr hfr n1 n2 Q HQ.out.symm).mono ?_
      rintro e w2 ⟨rfl, hr2, hf2, ht2⟩
      have hts := htr.trans ht2
      by_cases he : Q.e = 0
      · have he' : (Q.e != 0) = false := by simp [he]
        have HL2 : LeftQ n first r W most.toNat (d + 1) Q.r Q.W := by
          obtain ⟨Lc, h⟩ := HL.out
          have := LeftR.step h (by omega) (by rw [← HQ.out]; exact he)
          rw [← HQ.out] at this
          exact ⟨_, this⟩
        have HL3 := Lib.hid HL2
        clear HL2 he
        go_wp2_with (fail)
        go_roundw
        case rel => exact ⟨d + 1, Q.r, Q.W, by go_num, by omega, HL3, hr2, hf2, hts⟩
        case measure => simp [intOf]; omega
      · have he' : (Q.e != 0) = true := by simp [he]
        have HL2 : R.done = d ∧ R.call = Q.call ∧ R.e = Q.e ∧ R.r = Q.r ∧ R.W = Q.W := by
          obtain ⟨Lc, h⟩ := HL.out
          have := LeftR.stop h (by omega) (by rw [← HQ.out]; exact he)
          rw [← HQ.out, HR.out] at this
          exact ⟨this.1, this.2.1, this.2.2.1, this.2.2.2.1, this.2.2.2.2.1⟩
        have HL3 := Lib.hid HL2
        clear HL2 he
        go_wp2_with (fail)
        go_ret3
        obtain ⟨g1, g2, g3, g4, g5⟩ := HL3.out
        exact ⟨by rw [g1, g2, g3]; rfl, by rw [g4]; exact hr2, by rw [g5]; exact hf2, hts⟩
    · have hdm : d = most.toNat := by omega
      have HL4 : R.done = most.toNat ∧ R.call = 0 ∧ R.e = 0 ∧ R.r = rc ∧ R.W = Wc := by
        obtain ⟨Lc, h⟩ := HL.out
        rw [hdm] at h
        have := h.full
        rw [HR.out] at this
        exact ⟨this.1, this.2.1, this.2.2.1, this.2.2.2.1, this.2.2.2.2.1⟩
      have HL3 := Lib.hid HL4
      have HD := Lib.hid hdm
      clear HL4 hdm
      go_wp2_with (fail)
      go_ret3
      obtain ⟨g1, g2, g3, g4, g5⟩ := HL3.out
      exact ⟨by rw [g1, g2, g3, ← HD.out]; rfl, by rw [g4]; exact hrr, by rw [g5]; exact hfr, htr⟩

end Go.Proofs.Ytfjfdhojhikgdaa
