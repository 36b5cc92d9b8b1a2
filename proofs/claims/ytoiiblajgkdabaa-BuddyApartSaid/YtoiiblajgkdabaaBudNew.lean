/- Plain: the first blocks, from the reserved frames on, each as great as can be. -/
import Derived.Test.YtoiiblajgkdabaaBudPlain
namespace Go.Proofs.Ytoiiblajgkdabaa
set_option linter.unusedSimpArgs false
set_option linter.unusedVariables false
set_option maxRecDepth 100000

def rangeT (r p : Nat) : Nat → Prop := fun x => r ≤ x ∧ x < p
/-- A block that begins behind the reserved frames and goes beyond p is not within n. -/
def NewInv (n r p : Nat) : Prop := ∀ o c, o < 8 → r ≤ c * 2 ^ (o + 1) → c * 2 ^ (o + 1) < p → p < (c + 1) * 2 ^ (o + 1) → n < (c + 1) * 2 ^ (o + 1)
theorem newInv_start (n r : Nat) : NewInv n r r := fun o c _ h1 h2 _ => by omega
theorem pow_split {i j : Nat} (h : i ≤ j) : ∃ d, 2 ^ j = 2 ^ i * 2 ^ d ∧ 1 ≤ 2 ^ d := ⟨j - i, by rw [← Nat.pow_add]; congr 1; omega, Nat.one_le_two_pow⟩
theorem between {m c a : Nat} (h1 : c * m < a * m) (h2 : a * m < (c + 1) * m) : False := by
  have h3 := Nat.lt_of_mul_lt_mul_right h1
  have h4 := Nat.lt_of_mul_lt_mul_right h2
  omega
theorem newInv_step {n r a k : Nat} (hk : k ≤ 8) (h : NewInv n r (a * 2 ^ k)) (hmax : k < 8 → (a * 2 ^ k) % (2 * 2 ^ k) = 0 → n < a * 2 ^ k + 2 * 2 ^ k) : NewInv n r ((a + 1) * 2 ^ k) := by
  intro o c ho h1 h2 h3
  have hs : (a + 1) * 2 ^ k = a * 2 ^ k + 2 ^ k := by rw [Nat.add_mul]; omega
  have hc : (c + 1) * 2 ^ (o + 1) = c * 2 ^ (o + 1) + 2 ^ (o + 1) := by rw [Nat.add_mul]; omega
  have hk0 := Nat.two_pow_pos k
  have ho0 := Nat.two_pow_pos (o + 1)
  rcases Nat.lt_trichotomy (c * 2 ^ (o + 1)) (a * 2 ^ k) with hlt | heq | hgt
  · exact h o c ho h1 hlt (by omega)
  · have hko : k ≤ o := by
      refine Nat.le_of_not_lt fun hk' => ?_
      obtain ⟨d, hd, hd1⟩ := pow_split (show o + 1 ≤ k by omega)
      have : 2 ^ (o + 1) ≤ 2 ^ k := by rw [hd]; exact Nat.le_mul_of_pos_right _ (by omega)
      omega
    obtain ⟨d, hd, hd1⟩ := pow_split (show k + 1 ≤ o + 1 by omega)
    have hp : 2 ^ (k + 1) = 2 * 2 ^ k := by rw [Nat.pow_succ]; omega
    have hz : (a * 2 ^ k) % (2 * 2 ^ k) = 0 := by
      rw [← heq, hd, hp, ← Nat.mul_assoc, Nat.mul_comm c, Nat.mul_assoc, Nat.mul_mod_right]
    have h5 := hmax (by omega) hz
    have h6 : 2 ^ (k + 1) ≤ 2 ^ (o + 1) := by rw [hd]; exact Nat.le_mul_of_pos_right _ (by omega)
    omega
  · exfalso
    by_cases hko : o + 1 ≤ k
    · obtain ⟨d, hd, hd1⟩ := pow_split hko
      have he : (a + 1) * 2 ^ k = ((a + 1) * 2 ^ d) * 2 ^ (o + 1) := by rw [hd, Nat.mul_assoc, Nat.mul_comm (2 ^ d)]
      rw [he] at h2 h3
      exact between h2 h3
    · obtain ⟨d, hd, hd1⟩ := pow_split (show k ≤ o + 1 by omega)
      have he : c * 2 ^ (o + 1) = (c * 2 ^ d) * 2 ^ k := by rw [hd, Nat.mul_assoc, Nat.mul_comm (2 ^ d)]
      rw [he] at h2 hgt
      exact between hgt h2
theorem new_bud {n r a k : Nat} (h : NewInv n r (a * 2 ^ k)) (hn : (a + 1) * 2 ^ k ≤ n) : k < 8 → ¬ QFull (rangeT r (a * 2 ^ k)) (budQ a) k := by
  intro hk hf
  have h1 := hf _ (in_block (budQ a) k)
  unfold rangeT at h1
  by_cases he : a % 2 = 0
  · have : budQ a = a + 1 := by unfold budQ; rw [if_pos he]
    rw [this] at h1
    have : a * 2 ^ k ≤ (a + 1) * 2 ^ k := Nat.mul_le_mul_right _ (by omega)
    omega
  · have hb : budQ a = a - 1 := by unfold budQ; rw [if_neg he]
    rw [hb] at h1
    obtain ⟨c, hc⟩ : ∃ c, a = 2 * c + 1 := ⟨a / 2, by omega⟩
    subst hc
    have e1 : (2 * c + 1 - 1) * 2 ^ k = c * 2 ^ (k + 1) := by rw [Nat.pow_succ, Nat.add_sub_cancel, Nat.mul_comm 2 c, Nat.mul_assoc, Nat.mul_comm 2]
    have e2 : (2 * c + 1 + 1) * 2 ^ k = (c + 1) * 2 ^ (k + 1) := by rw [Nat.pow_succ, show 2 * c + 1 + 1 = 2 * (c + 1) by omega, Nat.mul_comm 2 (c + 1), Nat.mul_assoc, Nat.mul_comm 2]
    rw [e1] at h1
    have h3 : (2 * c + 1) * 2 ^ k < (2 * c + 1 + 1) * 2 ^ k := Nat.mul_lt_mul_of_pos_right (by omega) (Nat.two_pow_pos k)
    have := h k c hk h1.1 h1.2 (by rw [← e2]; exact h3)
    omega
theorem range_plus {r a k : Nat} (h : r ≤ a * 2 ^ k) : plusQ (rangeT r (a * 2 ^ k)) a k = rangeT r ((a + 1) * 2 ^ k) := by
  funext x
  apply propext
  unfold plusQ rangeT
  have hk0 := Nat.two_pow_pos k
  have hs : (a + 1) * 2 ^ k = a * 2 ^ k + 2 ^ k := by rw [Nat.add_mul]; omega
  constructor
  · rintro (h1 | h1)
    · omega
    · have h2 := Nat.div_mul_le_self x (2 ^ k)
      have h3 := Nat.lt_mul_of_div_lt (show x / 2 ^ k < a + 1 by omega) hk0
      rw [h1] at h2
      have h4 := Nat.mul_comm (2 ^ k) (a + 1)
      omega
  · rintro ⟨h1, h2⟩
    by_cases e : x < a * 2 ^ k
    · exact Or.inl ⟨h1, e⟩
    · right
      refine Nat.div_eq_of_lt_le (by omega) h2
theorem range_dis {r a k : Nat} : ∀ x, x / 2 ^ k = a → ¬ rangeT r (a * 2 ^ k) x := fun x hx h => by
  have h2 := Nat.div_mul_le_self x (2 ^ k)
  rw [hx] at h2
  have := h.2
  omega

end Go.Proofs.Ytoiiblajgkdabaa
