/- Plain: the numbers of a set, rising; the lowest bit of a word; the first gap. -/
import Derived.Test.YtjacbcephokbbaaDoorBitmap
import Derived.Lib.TrailingZeros
import Derived.Shelf.Spec.TrailingZeros
namespace Go.Proofs.YtjacbcephokbbaaDoor
set_option linter.unusedSimpArgs false
set_option linter.unusedVariables false
set_option maxRecDepth 100000
open Go.RowKit
set_option maxHeartbeats 4000000

/-- The j-th word of a set, without the numbers below a place. -/
def wordF (S : Nat → Bool) (j t : Nat) : Int := bitsI (fun k => decide (t ≤ k) && S (64 * j + k)) 64
theorem wordF_zero (S : Nat → Bool) (j : Nat) : wordF S j 0 = wordB S j := bitsI_congr 64 fun k _ => by simp
theorem wordF_bd (S : Nat → Bool) (j t : Nat) : 0 ≤ wordF S j t ∧ wordF S j t < 18446744073709551616 := bitsI_bd _ 64
theorem bitsI_none {f : Nat → Bool} : ∀ n, (∀ k, k < n → f k = false) → bitsI f n = 0
  | 0, _ => rfl
  | n + 1, h => by unfold bitsI; rw [bitsI_none n (fun k hk => h k (by omega)), h n (by omega)]; rfl
theorem bitsI_low {f : Nat → Bool} {k : Nat} (h0 : ∀ i, i < k → f i = false) (h1 : f k = true) : ∀ d, ∃ m : Nat, bitsI f (k + 1 + d) = ((2 ^ k * (2 * m + 1) : Nat) : Int)
  | 0 => ⟨0, by
    show bitsI f k + (if f k then 2 ^ k else 0) = _
    rw [bitsI_none k h0, h1]; simp⟩
  | d + 1 => by
    obtain ⟨m, hm⟩ := bitsI_low h0 h1 d
    show ∃ m : Nat, bitsI f (k + 1 + d) + (if f (k + 1 + d) then 2 ^ (k + 1 + d) else 0) = _
    rw [hm]
    split
    · refine ⟨m + 2 ^ d, ?_⟩
      have e : (2 : Int) ^ (k + 1 + d) = ((2 ^ k * (2 * 2 ^ d) : Nat) : Int) := by
        push_cast
        rw [Int.pow_add, Int.pow_succ, Int.mul_assoc]
      rw [e, ← Int.natCast_add, ← Nat.mul_add]
      congr 2; omega
    · exact ⟨m, by simp⟩
theorem odd_inj {a b m n : Nat} (h : 2 ^ a * (2 * m + 1) = 2 ^ b * (2 * n + 1)) : a = b := by
  have key : ∀ {a b m n : Nat}, a < b → 2 ^ a * (2 * m + 1) = 2 ^ b * (2 * n + 1) → False := by
    intro a b m n hab h
    obtain ⟨d, rfl⟩ : ∃ d, b = a + (d + 1) := ⟨b - a - 1, by omega⟩
    rw [Nat.pow_add, Nat.mul_assoc] at h
    have h2 := Nat.eq_of_mul_eq_mul_left (Nat.two_pow_pos a) h
    rw [Nat.pow_succ, Nat.mul_comm (2 ^ d) 2, Nat.mul_assoc] at h2
    omega
  rcases Nat.lt_trichotomy a b with h1 | h1 | h1
  · exact (key h1 h).elim
  · exact h1
  · exact (key h1 h.symm).elim
theorem ctz_of {k m : Nat} (h : 2 ^ k * (2 * m + 1) < 2 ^ 64) : Lib.ctz 64 (2 ^ k * (2 * m + 1)) = k := by
  have hp : 0 < 2 ^ k * (2 * m + 1) := Nat.mul_pos (Nat.two_pow_pos k) (by omega)
  obtain ⟨n, hn, _⟩ := Lib.ctzFrom_spec 64 _ hp h
  unfold Lib.ctz
  rw [if_neg (by omega)]
  exact (odd_inj hn).symm
theorem and_pred (k m : Nat) : (2 ^ k * (2 * m + 1)) &&& (2 ^ k * (2 * m + 1) - 1) = 2 ^ k * (2 * m) := by
  have hp := Nat.two_pow_pos k
  have e1 : 2 ^ k * (2 * m + 1) - 1 = 2 ^ k * (2 * m) + (2 ^ k - 1) := by rw [Nat.mul_add, Nat.mul_one]; omega
  have e2 : 2 ^ k * (2 * m + 1) = 2 ^ k * (2 * m + 1) + 0 := rfl
  have e3 : 2 ^ k * (2 * m) = 2 ^ k * (2 * m) + 0 := rfl
  refine Nat.eq_of_testBit_eq fun j => ?_
  rw [Nat.testBit_and, e1, e2, Nat.testBit_two_pow_mul_add _ hp, Nat.testBit_two_pow_mul_add _ (by omega), e3, Nat.testBit_two_pow_mul_add _ hp]
  by_cases hj : j < k
  · simp [hj]
  · simp only [hj, if_false]
    cases j - k with
    | zero => simp
    | succ i => rw [Nat.testBit_succ, Nat.testBit_succ, show (2 * m + 1) / 2 = m by omega, show 2 * m / 2 = m by omega, Bool.and_self]

/-- What a step of the walk over a word's numbers finds. -/
inductive LowW (S : Nat → Bool) (j t : Nat) : Prop
  | none (h : ∀ k, t ≤ k → k < 64 → S (64 * j + k) = false) (h0 : wordF S j t = 0)
  | some (k : Nat) (ht : t ≤ k) (hk : k < 64) (hs : S (64 * j + k) = true) (h : ∀ i, t ≤ i → i < k → S (64 * j + i) = false) (hp : 0 < wordF S j t) (hc : Lib.ctz 64 (wordF S j t).toNat = k)
      (ha : bits .and .u64 (wordF S j t) (wordF S j t - 1) = wordF S j (k + 1)) (hl : wordF S j (k + 1) < wordF S j t)
theorem first_true (p : Nat → Bool) : ∀ (d t : Nat), (∀ k, t ≤ k → k < t + d → p k = false) ∨ ∃ k, t ≤ k ∧ k < t + d ∧ p k = true ∧ ∀ i, t ≤ i → i < k → p i = false
  | 0, t => Or.inl fun k h1 h2 => by omega
  | d + 1, t => by
    rcases first_true p d t with h | ⟨k, h1, h2, h3, h4⟩
    · by_cases hp : p (t + d) = true
      · exact Or.inr ⟨t + d, by omega, by omega, hp, fun i hi hk => h i hi hk⟩
      · refine Or.inl fun k h1 h2 => ?_
        by_cases e : k = t + d
        · rw [e]; simpa using hp
        · exact h k h1 (by omega)
    · exact Or.inr ⟨k, h1, by omega, h3, h4⟩
theorem lowW (S : Nat → Bool) (j t : Nat) (ht : t ≤ 64) : LowW S j t := by
  rcases first_true (fun k => S (64 * j + k)) (64 - t) t with h | ⟨k, h1, h2, h3, h4⟩
  · refine .none (fun k hk hk2 => h k hk (by omega)) (bitsI_none 64 fun k hk => ?_)
    by_cases e : t ≤ k
    · rw [h k e (by omega)]; simp
    · simp [e]
  · have hk : k < 64 := by omega
    obtain ⟨m, hm⟩ := bitsI_low (f := fun k => decide (t ≤ k) && S (64 * j + k)) (k := k) (fun i hi => by
      by_cases e : t ≤ i
      · have h5 : S (64 * j + i) = false := h4 i e hi
        simp [h5]
      · simp [e]) (by simp only [h3]; simp [h1]) (63 - k)
    rw [show k + 1 + (63 - k) = 64 by omega] at hm
    have hm' : wordF S j t = ((2 ^ k * (2 * m + 1) : Nat) : Int) := hm
    have hbd := (wordF_bd S j t).2
    have hp : 0 < 2 ^ k * (2 * m + 1) := Nat.mul_pos (Nat.two_pow_pos k) (by omega)
    have hlt : 2 ^ k * (2 * m + 1) < 2 ^ 64 := by rw [hm'] at hbd; omega
    have hset := bitsI_set (fun k => decide (t ≤ k) && S (64 * j + k)) false k 64 hk
    rw [hm] at hset
    have hb1 : (decide (t ≤ k) && S (64 * j + k)) = true := by rw [h3]; simp [h1]
    rw [hb1] at hset
    have hnext : wordF S j (k + 1) = ((2 ^ k * (2 * m) : Nat) : Int) := by
      have e1 : wordF S j (k + 1) = bitsI (fun i => if i = k then false else (decide (t ≤ i) && S (64 * j + i))) 64 := bitsI_congr 64 fun i _ => by
        by_cases e : i = k
        · subst e; simp [show ¬ i + 1 ≤ i by omega]
        · rw [if_neg e]
          by_cases e2 : t ≤ i
          · by_cases e3 : i < k
            · have h5 : S (64 * j + i) = false := h4 i e2 e3
              simp [h5]
            · have : k + 1 ≤ i := by omega
              simp [this, e2]
          · have : ¬ k + 1 ≤ i := by omega
            simp [this, e2]
      rw [e1, hset]
      simp only [if_true, Bool.false_eq_true, if_false, Int.add_zero]
      rw [Nat.mul_add, Nat.mul_one]
      push_cast
      omega
    refine .some k h1 hk h3 (fun i hi hik => h4 i hi hik) (by rw [hm']; omega) (by rw [hm', Int.toNat_natCast]; exact ctz_of hlt) ?_ (by rw [hnext, hm', Nat.mul_add, Nat.mul_one]; have := Nat.two_pow_pos k; omega)
    rw [hnext, hm', show (((2 ^ k * (2 * m + 1) : Nat) : Int) - 1) = ((2 ^ k * (2 * m + 1) - 1 : Nat) : Int) by omega, bits_and_u64_nat _ _ (by omega) (by omega), and_pred]

/-! ### The numbers of a set, rising -/
def upTo (S : Nat → Bool) : Nat → List (Fin 256)
  | 0 => []
  | p + 1 => upTo S p ++ if h : p < 256 then (if S p then [⟨p, h⟩] else []) else []
theorem upTo_no {S : Nat → Bool} {p : Nat} (h : S p = false) : upTo S (p + 1) = upTo S p := by
  show upTo S p ++ (if h : p < 256 then (if S p then [⟨p, h⟩] else []) else []) = _
  split
  · rw [if_neg (by rw [h]; decide), List.append_nil]
  · rw [List.append_nil]
theorem upTo_yes {S : Nat → Bool} {p : Nat} (hp : p < 256) (h : S p = true) : upTo S (p + 1) = upTo S p ++ [⟨p, hp⟩] := by
  show upTo S p ++ (if h : p < 256 then (if S p then [⟨p, h⟩] else []) else []) = _
  rw [dif_pos hp, if_pos h]
theorem upTo_none {S : Nat → Bool} {p : Nat} : ∀ d, (∀ k, p ≤ k → k < p + d → S k = false) → upTo S (p + d) = upTo S p
  | 0, _ => rfl
  | d + 1, h => by rw [← Nat.add_assoc, upTo_no (h _ (by omega) (by omega)), upTo_none d (fun k h1 h2 => h k h1 (by omega))]
theorem upTo_mem {S : Nat → Bool} (x : Fin 256) : ∀ p, x ∈ upTo S p ↔ x.val < p ∧ S x.val = true
  | 0 => by simp [upTo]
  | p + 1 => by
    unfold upTo
    rw [List.mem_append, upTo_mem x p]
    have hx := x.isLt
    by_cases hp : p < 256
    · rw [dif_pos hp]
      by_cases hs : S p = true
      · rw [if_pos hs, List.mem_singleton]
        constructor
        · rintro (h | rfl)
          · exact ⟨by omega, h.2⟩
          · exact ⟨by simp, hs⟩
        · rintro ⟨h1, h2⟩
          by_cases e : x.val = p
          · exact Or.inr (Fin.ext e)
          · exact Or.inl ⟨by omega, h2⟩
      · rw [if_neg hs]
        constructor
        · rintro (h | h)
          · exact ⟨by omega, h.2⟩
          · cases h
        · rintro ⟨h1, h2⟩
          have : x.val ≠ p := fun e => hs (e ▸ h2)
          exact Or.inl ⟨by omega, h2⟩
    · rw [dif_neg hp]
      constructor
      · rintro (h | h)
        · exact ⟨by omega, h.2⟩
        · cases h
      · rintro ⟨h1, h2⟩
        exact Or.inl ⟨by omega, h2⟩
theorem upTo_rise {S : Nat → Bool} : ∀ p, (upTo S p).Pairwise (fun x y => x.val < y.val)
  | 0 => by simp [upTo]
  | p + 1 => by
    unfold upTo
    refine List.pairwise_append.2 ⟨upTo_rise p, ?_, fun x hx y hy => ?_⟩
    · split
      · split <;> simp
      · simp
    · have h1 := ((upTo_mem x p).1 hx).1
      split at hy
      · split at hy
        · rw [List.mem_singleton.1 hy]; exact h1
        · cases hy
      · cases hy
theorem upTo_len (S : Nat → Bool) : ∀ p, (upTo S p).length ≤ p
  | 0 => by simp [upTo]
  | p + 1 => by
    unfold upTo
    rw [List.length_append]
    have := upTo_len S p
    split
    · split <;> simp <;> omega
    · simp; omega

/-! ### The first gap -/
/-- Just behind the last number that has come. -/
def fromL (l : List (Fin 256)) : Int := l.foldl (fun _ x => (x.val : Int) + 1) 0
theorem fromL_snoc (l : List (Fin 256)) (x : Fin 256) : fromL (l ++ [x]) = (x.val : Int) + 1 := by simp [fromL]
theorem fromL_cases (l : List (Fin 256)) : (l = [] ∧ fromL l = 0) ∨ ∃ l' x, l = l' ++ [x] ∧ fromL l = (x.val : Int) + 1 := by
  rcases List.eq_nil_or_concat l with h | ⟨l', x, h⟩
  · exact Or.inl ⟨h, by rw [h]; rfl⟩
  · rw [List.concat_eq_append] at h
    exact Or.inr ⟨l', x, h, by rw [h]; exact fromL_snoc _ _⟩
theorem fromL_bd (l : List (Fin 256)) : 0 ≤ fromL l ∧ fromL l ≤ 256 := by
  rcases fromL_cases l with ⟨_, h⟩ | ⟨_, x, _, h⟩
  · omega
  · have := x.isLt; omega
/-- The numbers that came leave no gap ahead of their last one. -/
def Blk3 (m e : Int) (l : List (Fin 256)) : Prop := fromL l ≤ e ∧ ∀ f, 0 ≤ f → f < fromL l → ∃ x ∈ l, f ≤ (x.val : Int) ∧ (x.val : Int) < f + m
theorem blk_nil {m e : Int} (he : 0 ≤ e) : Blk3 m e [] := ⟨he, fun f h0 h1 => by have : fromL [] = 0 := rfl; omega⟩
theorem blk_snoc {m e : Int} {l : List (Fin 256)} {x : Fin 256} (h : Blk3 m e l) (h1 : (x.val : Int) < e) (h2 : (x.val : Int) - fromL l < m) : Blk3 m e (l ++ [x]) := by
  refine ⟨by rw [fromL_snoc]; omega, fun f h0 hf => ?_⟩
  rw [fromL_snoc] at hf
  by_cases e : f < fromL l
  · obtain ⟨y, hy, h3, h4⟩ := h.2 f h0 e
    exact ⟨y, List.mem_append_left _ hy, h3, h4⟩
  · exact ⟨x, List.mem_append_right _ (List.mem_singleton.2 rfl), by omega, by omega⟩
/-- The first of m numbers in a row below e of which none is in; below 0: there are none. -/
inductive GapIs (S : Nat → Bool) (m e : Int) (r : Int) : Prop
  | no (hr : r = -1) (h : ∀ f, 0 ≤ f → f + m ≤ e → ∃ n : Nat, S n = true ∧ f ≤ n ∧ (n : Int) < f + m)
  | yes (h0 : 0 ≤ r) (h1 : r + m ≤ e) (h : ∀ n : Nat, r ≤ n → (n : Int) < r + m → S n = false) (hf : ∀ f, 0 ≤ f → f < r → ∃ n : Nat, S n = true ∧ f ≤ n ∧ (n : Int) < f + m)
theorem gap_of {S : Nat → Bool} {m e : Int} {l : List (Fin 256)} (hm : 1 ≤ m) (he : e ≤ 256) (hb : Blk3 m e l) (hs : ∀ x ∈ l, S x.val = true) (hfree : ∀ n : Nat, fromL l ≤ n → (n : Int) < e → (n : Int) < fromL l + m → S n = false) : GapIs S m e (if e - fromL l < m then -1 else fromL l) := by
  have hbd := fromL_bd l
  have hbl : ∀ f, 0 ≤ f → f < fromL l → ∃ n : Nat, S n = true ∧ f ≤ n ∧ (n : Int) < f + m := fun f h0 h1 => by
    obtain ⟨x, hx, h2, h3⟩ := hb.2 f h0 h1
    exact ⟨x.val, hs x hx, h2, h3⟩
  by_cases h : e - fromL l < m
  · rw [if_pos h]
    refine .no rfl fun f h0 h1 => hbl f h0 (by omega)
  · rw [if_neg h]
    exact .yes hbd.1 (by omega) (fun n h1 h2 => hfree n h1 (by omega) h2) hbl
theorem gap_done {S : Nat → Bool} {m e : Int} (hm : 1 ≤ m) (he : e ≤ 256) (hb : Blk3 m e (upTo S 256)) : GapIs S m e (if e - fromL (upTo S 256) < m then -1 else fromL (upTo S 256)) := by
  refine gap_of hm he hb (fun x hx => ((upTo_mem x 256).1 hx).2) fun n h1 h2 _ => ?_
  cases hn : S n with
  | false => rfl
  | true =>
    exfalso
    have hlt : n < 256 := by omega
    have hin := (upTo_mem (S := S) ⟨n, hlt⟩ 256).2 ⟨hlt, hn⟩
    have hr := upTo_rise (S := S) 256
    rcases fromL_cases (upTo S 256) with ⟨h, _⟩ | ⟨l', x, h, h3⟩
    · rw [h] at hin; cases hin
    · rw [h] at hin hr
      rcases List.mem_append.1 hin with h4 | h4
      · have := (List.pairwise_append.1 hr).2.2 _ h4 x (List.mem_singleton.2 rfl)
        simp only at this
        omega
      · have := List.mem_singleton.1 h4
        rw [← this] at h3
        simp only at h3
        omega
theorem gap_stop {S : Nat → Bool} {m e : Int} {l : List (Fin 256)} {x : Fin 256} {p : Nat} (hm : 1 ≤ m) (he : e ≤ 256) (hp : upTo S p = l ++ [x]) (hb : Blk3 m e l) (hx : e ≤ (x.val : Int) ∨ m ≤ (x.val : Int) - fromL l) : GapIs S m e (if e - fromL l < m then -1 else fromL l) := by
  have hall : ∀ y ∈ l ++ [x], y.val < p ∧ S y.val = true := fun y hy => (upTo_mem y p).1 (by rw [hp]; exact hy)
  have hr := upTo_rise (S := S) p
  rw [hp] at hr
  refine gap_of hm he hb (fun y hy => (hall y (List.mem_append_left _ hy)).2) fun n h1 h2 h3 => ?_
  cases hn : S n with
  | false => rfl
  | true =>
    exfalso
    have hnx : n < x.val := by omega
    have hlt : n < 256 := by omega
    have hxp := (hall x (List.mem_append_right _ (List.mem_singleton.2 rfl))).1
    have hin := (upTo_mem (S := S) ⟨n, hlt⟩ p).2 ⟨by simp only; omega, hn⟩
    rw [hp] at hin
    rcases List.mem_append.1 hin with h4 | h4
    · rcases fromL_cases l with ⟨h, _⟩ | ⟨l', y, h, h5⟩
      · rw [h] at h4; cases h4
      · subst h
        have hr2 := (List.pairwise_append.1 hr).1
        rcases List.mem_append.1 h4 with h6 | h6
        · have := (List.pairwise_append.1 hr2).2.2 _ h6 y (List.mem_singleton.2 rfl)
          simp only at this
          omega
        · have e6 := congrArg Fin.val (List.mem_singleton.1 h6)
          simp only at e6
          omega
    · have := List.mem_singleton.1 h4
      rw [← this] at hnx
      simp at hnx
end Go.Proofs.YtjacbcephokbbaaDoor
