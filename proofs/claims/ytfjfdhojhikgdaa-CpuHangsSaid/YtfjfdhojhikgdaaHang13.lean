/- Plain fact: a run hangs on its registers and on the words that it loads alone. -/
import Derived.Test.YtfjfdhojhikgdaaRun13
namespace Go.Proofs.Ytfjfdhojhikgdaa
set_option linter.unusedSimpArgs false
set_option linter.unusedVariables false
open Go.RowKit
set_option maxHeartbeats 4000000

/-- Two memories are the same at addresses. -/
def AgreeL (n : Nat) (L : List Int) (W U : Nat → Int) : Prop := ∀ a, a ∈ L → 0 ≤ a → a < n → W a.toNat = U a.toNat
theorem agree_st {n : Nat} {L : List Int} {W U : Nat → Int} (h : AgreeL n L W U) (first a x : Int) : AgreeL n L (stW n first W a x) (stW n first U a x) := by
  intro b hb h0 h1
  unfold stW
  split
  · unfold setF; split
    · rfl
    · exact h b hb h0 h1
  · exact h b hb h0 h1

theorem stepI_hang (n : Nat) (first : Int) (r W U : Nat → Int) (pc op a b c m : Int) (L : List Int) (h : AgreeL n L W U) (hl : ∀ x, x ∈ (stepI n first r W pc op a b c m).lo → x ∈ L) :
    (stepI n first r W pc op a b c m).call = (stepI n first r U pc op a b c m).call ∧ (stepI n first r W pc op a b c m).e = (stepI n first r U pc op a b c m).e ∧ (stepI n first r W pc op a b c m).r = (stepI n first r U pc op a b c m).r ∧
      (stepI n first r W pc op a b c m).lo = (stepI n first r U pc op a b c m).lo ∧ AgreeL n L (stepI n first r W pc op a b c m).W (stepI n first r U pc op a b c m).W := by
  have hR : doR op n W r a.toNat (r b.toNat) (r c.toNat) m (IntKind.u64.wrap (r b.toNat + m) % 65536) = doR op n U r a.toNat (r b.toNat) (r c.toNat) m (IntKind.u64.wrap (r b.toNat + m) % 65536) := by
    unfold doR
    split
    · rfl
    · split
      · rfl
      · split
        · rename_i h6
          have hin : 0 ≤ IntKind.u64.wrap (r b.toNat + m) % 65536 ∧ IntKind.u64.wrap (r b.toNat + m) % 65536 < n := by
            have := h6.2
            unfold ldE at this
            split at this
            · assumption
            · omega
          have hmem : IntKind.u64.wrap (r b.toNat + m) % 65536 ∈ L := by
            apply hl
            unfold stepI
            simp only
            split <;> simp [doL, h6.1]
          rw [h _ hmem hin.1 hin.2]
        · rfl
  have hW : AgreeL n L (doW op n first W (IntKind.u64.wrap (r b.toNat + m) % 65536) (r a.toNat)) (doW op n first U (IntKind.u64.wrap (r b.toNat + m) % 65536) (r a.toNat)) := by
    unfold doW
    split
    · exact agree_st h _ _ _
    · exact h
  unfold stepI
  simp only
  rw [hR]
  split
  · exact ⟨rfl, rfl, rfl, rfl, hW⟩
  · exact ⟨rfl, rfl, rfl, rfl, hW⟩

theorem stepM_hang (n : Nat) (first : Int) (r W U : Nat → Int) (L : List Int) (h : AgreeL n L W U) (hl : ∀ x, x ∈ (stepM n first r W).lo → x ∈ L) :
    (stepM n first r W).call = (stepM n first r U).call ∧ (stepM n first r W).e = (stepM n first r U).e ∧ (stepM n first r W).r = (stepM n first r U).r ∧ (stepM n first r W).lo = (stepM n first r U).lo ∧ AgreeL n L (stepM n first r W).W (stepM n first r U).W := by
  unfold stepM at hl ⊢
  by_cases h1 : ldE n (r 8 % 65536) ≠ 0
  · rw [if_pos h1, if_pos h1]; exact ⟨rfl, rfl, rfl, rfl, h⟩
  · rw [if_neg h1] at hl
    rw [if_neg h1, if_neg h1]
    have hin : 0 ≤ r 8 % 65536 ∧ r 8 % 65536 < n := by
      have h1' : ldE n (r 8 % 65536) = 0 := by omega
      unfold ldE at h1'
      split at h1'
      · assumption
      · omega
    have hmem : r 8 % 65536 ∈ L := by
      apply hl
      split
      · simp
      · unfold stepI; simp only; split <;> simp
    have hw := h _ hmem hin.1 hin.2
    rw [← hw]
    split
    · exact ⟨rfl, rfl, rfl, rfl, h⟩
    · rename_i h2
      rw [if_neg h2] at hl
      exact stepI_hang n first r W U _ _ _ _ _ _ L h hl

theorem runM_hang (n : Nat) (first : Int) (L : List Int) : ∀ (k : Nat) (r W U : Nat → Int), AgreeL n L W U → (∀ x, x ∈ (runM n first k r W).lo → x ∈ L) →
    (runM n first k r W).done = (runM n first k r U).done ∧ (runM n first k r W).call = (runM n first k r U).call ∧ (runM n first k r W).e = (runM n first k r U).e ∧ (runM n first k r W).r = (runM n first k r U).r ∧ (runM n first k r W).lo = (runM n first k r U).lo
  | 0, r, W, U, _, _ => by simp [runM]
  | k + 1, r, W, U, h, hl => by
    by_cases he : (stepM n first r W).e = 0
    · simp only [runM, he, ne_eq, not_true, if_false] at hl ⊢
      obtain ⟨h1, h2, h3, h4, h5⟩ := stepM_hang n first r W U L h (fun x hx => hl x (by simp [hx]))
      rw [h2] at he
      simp only [he, ne_eq, not_true, if_false]
      obtain ⟨g1, g2, g3, g4, g5⟩ := runM_hang n first L k (stepM n first r W).r (stepM n first r W).W (stepM n first r U).W h5 (fun x hx => hl x (by simp [hx]))
      rw [h3] at g1 g2 g3 g4 g5
      rw [h3, h4]
      exact ⟨by rw [g1], g2, g3, g4, by rw [g5]⟩
    · simp only [runM, he, ne_eq, not_false_eq_true, if_true] at hl ⊢
      obtain ⟨h1, h2, h3, h4, h5⟩ := stepM_hang n first r W U L h hl
      rw [h2] at he
      simp only [he, ne_eq, not_false_eq_true, if_true]
      exact ⟨trivial, h1, h2, h3, h4⟩

end Go.Proofs.Ytfjfdhojhikgdaa
