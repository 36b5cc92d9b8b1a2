/- Plain laws on lists of windows: whose a tick is, how many ticks each has. -/
import Derived.Test.YtjacbcephokbbaaMajor4
namespace Go.Proofs.Ytjacbcephokbbaa
set_option linter.unusedSimpArgs false
set_option linter.unusedVariables false
set_option maxRecDepth 100000
open Go.RowKit

/-- How many of the first k ticks are part i's. -/
def seen (L : List Win) : Nat → Int → Int
  | 0, _ => 0
  | k + 1, i => seen L k i + if atW L k = i then 1 else 0
/-- How long part i's windows are. -/
def lens (L : List Win) (i : Int) : Int := (L.map fun x => if x.p = i then x.l else 0).sum
theorem atW_none (L : List Win) (t : Int) (h : ∀ x ∈ L, t < x.f) : atW L t = -1 := by
  induction L with
  | nil => rfl
  | cons x L ih =>
    have := h x (by simp)
    rw [atW, if_neg (by simp [inW]; omega)]
    exact ih fun y hy => h y (List.mem_cons_of_mem _ hy)
theorem seen_cons (x : Win) (L : List Win) (i : Int) (hi : 0 ≤ i) (hl : 0 ≤ x.l) (hf : 0 ≤ x.f) (h : ∀ y ∈ L, x.f + x.l ≤ y.f) (k : Nat) :
    seen (x :: L) k i = (if x.p = i then max 0 (min ((k : Int) - x.f) x.l) else 0) + seen L k i := by
  induction k with
  | zero => simp only [seen]; split <;> omega
  | succ k ih =>
    simp only [seen]
    rw [ih]
    by_cases hin : x.f ≤ (k : Int) ∧ (k : Int) < x.f + x.l
    · have e1 : atW (x :: L) k = x.p := by rw [atW, if_pos (by simp [inW]; omega)]
      have e2 : atW L k = -1 := atW_none L k fun y hy => by have := h y hy; omega
      rw [e1, e2]
      by_cases hp : x.p = i
      · rw [if_pos hp, if_pos hp, if_pos hp, if_neg (by omega)]; push_cast; omega
      · rw [if_neg hp, if_neg hp, if_neg hp, if_neg (by omega)]; omega
    · have e1 : atW (x :: L) k = atW L k := by rw [atW, if_neg (by simp [inW]; omega)]
      rw [e1]
      have e3 : max 0 (min (((k + 1 : Nat) : Int) - x.f) x.l) = max 0 (min ((k : Int) - x.f) x.l) := by push_cast; omega
      rw [e3]; omega
theorem seen_all (L : List Win) (m : Nat) (i : Int) (hi : 0 ≤ i) (hb : ∀ x ∈ L, 0 ≤ x.l ∧ 0 ≤ x.f ∧ x.f + x.l ≤ m) (ha : L.Pairwise fun a b => a.f + a.l ≤ b.f) : seen L m i = lens L i := by
  induction L with
  | nil =>
    have : ∀ k, seen [] k i = 0 := fun k => by
      induction k with
      | zero => rfl
      | succ k ih => simp only [seen]; rw [ih, show atW [] (k : Int) = -1 from rfl, if_neg (by omega)]; rfl
    rw [this]; rfl
  | cons x L ih =>
    obtain ⟨h1, h2, h3⟩ := hb x (by simp)
    rw [List.pairwise_cons] at ha
    rw [seen_cons x L i hi h1 h2 ha.1, ih (fun y hy => hb y (List.mem_cons_of_mem _ hy)) ha.2]
    unfold lens
    rw [List.map_cons, List.sum_cons]
    congr 1
    split <;> omega
/-- A window that begins at a tick: the tick is someone's. -/
theorem at_first (L : List Win) (t : Int) (hb : ∀ x ∈ L, 0 ≤ x.p ∧ 1 ≤ x.l) (h : (L.any fun x => x.f == t) = true) : 0 ≤ atW L t := by
  induction L with
  | nil => simp at h
  | cons x L ih =>
    rw [atW]
    have hx := hb x (by simp)
    split
    · exact hx.1
    · rename_i hn
      refine ih (fun y hy => hb y (List.mem_cons_of_mem _ hy)) ?_
      rw [List.any_cons, Bool.or_eq_true] at h
      rcases h with h | h
      · exfalso; apply hn
        have : x.f = t := by simpa using h
        simp [inW]; omega
      · exact h
/-- No window begins at a tick that is someone's: the tick ahead is of the same. -/
theorem at_back (L : List Win) (t : Int) (ht : 0 ≤ t) (hb : ∀ x ∈ L, 0 ≤ x.f ∧ 0 ≤ x.p ∧ 0 ≤ x.l) (ha : L.Pairwise fun a b => a.f + a.l ≤ b.f) (h : (L.any fun x => x.f == t) = false) (hp : 0 ≤ atW L t) : 0 < t ∧ atW L (t - 1) = atW L t := by
  induction L with
  | nil => simp [atW] at hp
  | cons x L ih =>
    rw [List.pairwise_cons] at ha
    rw [List.any_cons, Bool.or_eq_false_iff] at h
    have hx : ¬ x.f = t := by simpa using h.1
    have hxb := hb x (by simp)
    by_cases hin : x.f ≤ t ∧ t < x.f + x.l
    · have e1 : atW (x :: L) t = x.p := by rw [atW, if_pos (by simp [inW]; omega)]
      have e2 : atW (x :: L) (t - 1) = x.p := by rw [atW, if_pos (by simp [inW]; omega)]
      exact ⟨by omega, by rw [e1, e2]⟩
    · have e1 : atW (x :: L) t = atW L t := by rw [atW, if_neg (by simp [inW]; omega)]
      rw [e1] at hp ⊢
      obtain ⟨i1, i2⟩ := ih (fun y hy => hb y (List.mem_cons_of_mem _ hy)) ha.2 h.2 hp
      refine ⟨i1, ?_⟩
      rw [atW]
      split
      · rename_i hin1
        exfalso
        have h1 : x.f ≤ t - 1 ∧ t - 1 < x.f + x.l := by simpa [inW] using hin1
        have : t = x.f + x.l := by omega
        have hall : ∀ (M : List Win), (∀ y ∈ M, x.f + x.l ≤ y.f) → (M.any fun y => y.f == t) = false → atW M t = -1 := fun M hM hf => atW_none M t fun y hy => by
          have h2 := hM y hy
          have h3 : ¬ y.f = t := by
            have := List.any_eq_false.1 hf y hy
            simpa using this
          omega
        rw [hall L ha.1 h.2] at hp
        omega
      · exact i2
/-- How many ticks each had behind f frames and k ticks. -/
def useK (L : List Win) (m f k : Nat) : Nat → Int := fun i => (f : Int) * seen L m i + seen L k i
theorem useK_zero (L : List Win) (m : Nat) : useK L m 0 0 = fun _ => 0 := by funext i; simp [useK, seen]
theorem useK_succ (L : List Win) (m f k : Nat) : bump (useK L m f k) (atW L k) = useK L m f (k + 1) := by
  funext i
  simp only [bump, useK, seen]
  by_cases e : (i : Int) = atW L k
  · rw [if_pos e, if_pos e.symm]; omega
  · rw [if_neg e, if_neg (fun h => e h.symm)]; omega
theorem useK_row (L : List Win) (m f : Nat) : useK L m f m = useK L m (f + 1) 0 := by
  funext i
  simp only [useK, seen]
  push_cast
  rw [Int.add_mul]; omega
theorem seen_range (L : List Win) (k : Nat) (i : Int) : 0 ≤ seen L k i ∧ seen L k i ≤ k := by
  induction k with
  | zero => simp [seen]
  | succ k ih => simp only [seen]; split <;> (push_cast; omega)
theorem useK_range (L : List Win) (m f k : Nat) (i : Nat) : 0 ≤ useK L m f k i ∧ useK L m f k i ≤ (f : Int) * m + k := by
  have h1 := seen_range L m i
  have h2 := seen_range L k i
  have h3 : 0 ≤ (f : Int) * seen L m i := Int.mul_nonneg (by omega) h1.1
  have h4 : (f : Int) * seen L m i ≤ (f : Int) * m := Int.mul_le_mul_of_nonneg_left h1.2 (by omega)
  unfold useK
  omega

end Go.Proofs.Ytjacbcephokbbaa
