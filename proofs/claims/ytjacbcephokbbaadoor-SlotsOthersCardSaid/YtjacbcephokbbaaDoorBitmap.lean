/- What Put and Has of package bitmap return and write, by walks over their text. -/
import Derived.Test.YtjacbcephokbbaaDoorBits
import Derived.Test.YtjacbcephokbbaaDoorSep
namespace Go.Proofs.YtjacbcephokbbaaDoor
set_option linter.unusedSimpArgs false
set_option linter.unusedVariables false
set_option maxRecDepth 100000
open Go.RowKit
set_option maxHeartbeats 4000000

/-- The word of n bits. -/
def bitsI (f : Nat → Bool) : Nat → Int
  | 0 => 0
  | k + 1 => bitsI f k + (if f k then 2 ^ k else 0)
theorem bitsI_bd (f : Nat → Bool) : ∀ n, 0 ≤ bitsI f n ∧ bitsI f n < 2 ^ n
  | 0 => by simp [bitsI]
  | k + 1 => by
    obtain ⟨h1, h2⟩ := bitsI_bd f k
    have hp : (0 : Int) < 2 ^ k := Int.pow_pos (by decide)
    have e : (2 : Int) ^ (k + 1) = 2 ^ k + 2 ^ k := by rw [Int.pow_succ]; omega
    rw [e]
    unfold bitsI
    split <;> omega
theorem bitsI_get (f : Nat → Bool) : ∀ n k, k < n → bitsI f n / 2 ^ k % 2 = if f k then 1 else 0
  | 0, k, h => by omega
  | n + 1, k, h => by
    have hp : (0 : Int) < 2 ^ k := Int.pow_pos (by decide)
    unfold bitsI
    by_cases e : k = n
    · subst e
      obtain ⟨h1, h2⟩ := bitsI_bd f k
      split
      · rw [Int.add_ediv_of_dvd_right (Int.dvd_refl _), Int.ediv_eq_zero_of_lt h1 h2, Int.ediv_self (by omega)]; rfl
      · rw [Int.add_zero, Int.ediv_eq_zero_of_lt h1 h2]; rfl
    · have ih := bitsI_get f n k (by omega)
      split
      · obtain ⟨d, hd⟩ : ∃ d, n = k + (d + 1) := ⟨n - k - 1, by omega⟩
        have e2 : (2 : Int) ^ n = 2 ^ k * (2 * 2 ^ d) := by rw [hd, Int.pow_add, Int.pow_succ]; congr 1; rw [Int.mul_comm]
        rw [e2, Int.add_mul_ediv_left _ _ (by omega), Int.add_mul_emod_self_left]
        exact ih
      · rw [Int.add_zero]; exact ih
theorem bitsI_congr {f f' : Nat → Bool} : ∀ n, (∀ k, k < n → f k = f' k) → bitsI f n = bitsI f' n
  | 0, _ => rfl
  | n + 1, h => by unfold bitsI; rw [bitsI_congr n (fun k hk => h k (by omega)), h n (by omega)]
theorem bitsI_set (f : Nat → Bool) (b : Bool) (k : Nat) : ∀ n, k < n → bitsI (fun i => if i = k then b else f i) n = bitsI f n - (if f k then 2 ^ k else 0) + (if b then 2 ^ k else 0)
  | 0, h => by omega
  | n + 1, h => by
    unfold bitsI
    by_cases e : k = n
    · subst e
      rw [bitsI_congr (f' := f) k (fun i hi => by rw [if_neg (by omega)])]
      simp only [if_true]
      split <;> split <;> omega
    · have e2 : ¬ n = k := fun h => e h.symm
      rw [bitsI_set f b k n (by omega)]
      simp only [e2, if_false]
      split <;> split <;> split <;> omega
theorem bitsI_put (f : Nat → Bool) (b : Bool) (k : Nat) (h : k < 64) : Pl.put (bitsI f 64) (if b then 1 else 0) k 1 = bitsI (fun i => if i = k then b else f i) 64 := by
  unfold Pl.put
  rw [bitsI_set f b k 64 h, Int.pow_one (2 : Int), bitsI_get f 64 k h]
  cases f k <;> cases b <;> simp

/-- The j-th word of a set; the set with a number put in, or taken out. -/
def wordB (S : Nat → Bool) (j : Nat) : Int := bitsI (fun k => S (64 * j + k)) 64
def setB (S : Nat → Bool) (n : Nat) (b : Bool) : Nat → Bool := fun i => if i = n then b else S i
theorem wordB_bd (S : Nat → Bool) (j : Nat) : 0 ≤ wordB S j ∧ wordB S j < 18446744073709551616 := bitsI_bd _ 64
theorem wordB_put (S : Nat → Bool) (n : Nat) (b : Bool) : Pl.put (wordB S (n / 64)) (if b then 1 else 0) (n % 64) 1 = wordB (setB S n b) (n / 64) := by
  unfold wordB
  rw [bitsI_put _ _ _ (by omega)]
  refine bitsI_congr 64 fun i hi => ?_
  unfold setB
  by_cases e : i = n % 64
  · rw [if_pos e, if_pos (by omega)]
  · rw [if_neg e, if_neg (by omega)]
theorem wordB_other (S : Nat → Bool) (n : Nat) (b : Bool) (j : Nat) (h : j ≠ n / 64) : wordB (setB S n b) j = wordB S j :=
  bitsI_congr 64 fun i hi => by unfold setB; rw [if_neg (by omega)]
theorem wordB_get (S : Nat → Bool) (n : Nat) : wordB S (n / 64) / 2 ^ (n % 64) % 2 = if S n then 1 else 0 := by
  unfold wordB
  rw [bitsI_get _ 64 _ (by omega), show 64 * (n / 64) + n % 64 = n by omega]

/-- A set of numbers below 256, in four words from an offset on. -/
structure BmIn (w : World) (b off : Nat) (S : Nat → Bool) : Prop where
  cell : ∀ j, j < 4 → w.cell? ⟨b, off + j, none⟩ = some (.int .u64 (wordB S j))
  free : ∀ j, j < 4 → w.frozen? ⟨b, off + j, none⟩ = false
theorem BmIn.heap {w w' : World} {b off : Nat} {S : Nat → Bool} (h : BmIn w b off S) (e : w'.heap[b]? = w.heap[b]?) : BmIn w' b off S :=
  ⟨fun j hj => (cell_of_heap e _).trans (h.cell j hj), fun j hj => (frozen_of_heap e _).trans (h.free j hj)⟩
theorem BmIn.put {w : World} {b off : Nat} {S : Nat → Bool} (h : BmIn w b off S) (n : Nat) (hn : n < 256) (x : Bool) :
    BmIn (w.setCell ⟨b, off + n / 64, none⟩ (.int .u64 (wordB (setB S n x) (n / 64)))) b off (setB S n x) := by
  refine ⟨fun j hj => ?_, fun j hj => by simpa [go_sem] using h.free j hj⟩
  by_cases e : j = n / 64
  · subst e
    have := h.cell _ hj
    simp [go_sem, this]
  · have hne : (⟨b, off + j, none⟩ : Addr) ≠ ⟨b, off + n / 64, none⟩ := by simp [e]
    rw [wordB_other S n x j e]
    have := h.cell j hj
    simp [go_sem, e, hne, this]

/-- The block's cells beside the set's words are as they were. -/
def Others (b off : Nat) (w w' : World) : Prop := ∀ j, (j < off ∨ off + 4 ≤ j) → w'.cell? ⟨b, j, none⟩ = w.cell? ⟨b, j, none⟩ ∧ w'.frozen? ⟨b, j, none⟩ = w.frozen? ⟨b, j, none⟩
theorem Others.refl (b off : Nat) (w : World) : Others b off w w := fun _ _ => ⟨rfl, rfl⟩
theorem Others.trans {b off : Nat} {u v w : World} (h : Others b off u v) (k : Others b off v w) : Others b off u w := fun j hj => ⟨(k j hj).1.trans (h j hj).1, (k j hj).2.trans (h j hj).2⟩
theorem Others.of_heap {b off : Nat} {w w' : World} (e : w'.heap[b]? = w.heap[b]?) : Others b off w w' := fun _ _ => ⟨cell_of_heap e _, frozen_of_heap e _⟩
theorem others_set (b off : Nat) (w : World) (q i : Nat) (v : Value) (hi : i < 4) : Others b off w ((w.drewN q).setCell ⟨b, off + i, none⟩ v) := fun j hj => by
  have hne : (⟨b, j, none⟩ : Addr) ≠ ⟨b, off + i, none⟩ := by intro e; injection e; omega
  have hne2 : ¬ j = off + i := by omega
  exact ⟨by simp [go_sem, hne, hne2], by simp [go_sem]⟩
theorem bm_put_yes (b off : Nat) (S : Nat → Bool) (n : Int) (x : Bool) (w : World) (h : BmIn w b off S) (h0 : 0 ≤ n) (h1 : n < 256) :
    Calls Tryd.prog 34 #[.pointer (some ⟨b, off, none⟩), .int .i64 n, .bool x] w fun e w' => e = .returned (.bool true) ∧ BmIn w' b off (setB S n.toNat x) ∧ Others b off w w' ∧ Touch (· = b) w w' := by
  obtain ⟨k, rfl⟩ := Int.eq_ofNat_of_zero_le h0
  have hk : k < 256 := by omega
  have hc := h.cell (k / 64) (by omega)
  have hf := h.free (k / 64) (by omega)
  have hb := wordB_bd S (k / 64)
  have hfin : ∀ q, BmIn ((w.drewN q).setCell ⟨b, off + k / 64, none⟩ (.int .u64 (wordB (setB S k x) (k / 64)))) b off (setB S k x) ∧ Others b off w ((w.drewN q).setCell ⟨b, off + k / 64, none⟩ (.int .u64 (wordB (setB S k x) (k / 64)))) ∧ Touch (· = b) w ((w.drewN q).setCell ⟨b, off + k / 64, none⟩ (.int .u64 (wordB (setB S k x) (k / 64)))) := fun q =>
    ⟨BmIn.put (w := w.drewN q) (h.heap rfl) k hk x, others_set b off w q _ _ (by omega), Touch.setCell (S := (· = b)) ((Touch.refl _ _).drewN q) (Or.inl rfl) _⟩
  have HF := Lib.hid hfin
  have hm : ((k : Int) % 64).toNat = k % 64 := by omega
  have hput : Pl.put (wordB S (k / 64)) (if x then 1 else 0) ((k : Int) % 64).toNat (Int.toNat 1) = wordB (setB S k x) (k / 64) := by
    rw [hm]; exact wordB_put S k x
  have HP := Lib.hid hput
  rw [Int.toNat_natCast]
  clear hfin hput h hm
  cases x
  all_goals
    go_enter Tryd.func34, Tryd.ntmps34
    go_wp2_with (fail)
    refine (put_yes _ _ _ _ _ hb.1 hb.2 (by omega) (by omega) (by omega) (by decide) (by decide)).mono ?_
    rintro e w1 ⟨rfl, q, rfl⟩
    first
      | rw [show Pl.put (wordB S (k / 64)) 0 ((k : Int) % 64).toNat (Int.toNat 1) = _ from HP.out]
      | rw [show Pl.put (wordB S (k / 64)) 1 ((k : Int) % 64).toNat (Int.toNat 1) = _ from HP.out]
    go_wp2_with (fail)
    go_ret
    exact ⟨rfl, HF.out q⟩

/-- Is a number in? -/
def hasS (S : Nat → Bool) (n : Int) : Bool := decide (0 ≤ n) && decide (n < 256) && S n.toNat
theorem bm_has (b off : Nat) (S : Nat → Bool) (n : Int) (w : World) (h : BmIn w b off S) :
    Calls Tryd.prog 26 #[.pointer (some ⟨b, off, none⟩), .int .i64 n] w fun e w' => e = .returned (.bool (hasS S n)) ∧ w = w' := by
  by_cases hn : 0 ≤ n ∧ n < 256
  · obtain ⟨h0, h1⟩ := hn
    obtain ⟨k, rfl⟩ := Int.eq_ofNat_of_zero_le h0
    have hc := h.cell (k / 64) (by omega)
    have hb := wordB_bd S (k / 64)
    have hg : bits .and .u64 (wordB S (k / 64) / 2 ^ (k % 64)) 1 = if S k then 1 else 0 := by
      have hp : (0 : Int) < 2 ^ (k % 64) := Int.pow_pos (by decide)
      have := Pl.and_mask (wordB S (k / 64) / 2 ^ (k % 64)) 1 (Int.ediv_nonneg hb.1 (by omega)) (Int.lt_of_le_of_lt (Int.ediv_le_self _ hb.1) hb.2) (by omega)
      rw [show ((2 : Int) ^ 1 - 1) = 1 by rfl, Int.pow_one (2 : Int)] at this
      rw [this, wordB_get]
    have hH : hasS S k = S k := by unfold hasS; simp; omega
    have HG := Lib.hid hg
    have HH := Lib.hid hH
    clear hg hH h
    go_enter Tryd.func26, Tryd.ntmps26
    go_wp2_with (fail)
    go_ret
    refine ⟨?_, rfl⟩
    rw [HH.out]
    show Ending.returned (.bool (bits BinOp.and IntKind.u64 (wordB S (k / 64) / 2 ^ (k % 64)) 1 == 1)) = _
    rw [HG.out]
    cases S k <;> rfl
  · have hH : hasS S n = false := by unfold hasS; simp; omega
    have HH := Lib.hid hH
    have hh : n < 0 ∨ (¬ n < 0 ∧ 256 ≤ n) := by omega
    clear hH h hn
    rcases hh with h | ⟨h, h'⟩
    · have hd : decide (0 ≤ n) = false := by simp; omega
      go_enter Tryd.func26, Tryd.ntmps26
      go_wp2_with (fail)
      go_ret
      exact ⟨by rw [HH.out]; simp [*], rfl⟩
    · have hd : decide (n < 256) = false := by simp; omega
      go_enter Tryd.func26, Tryd.ntmps26
      go_wp2_with (fail)
      go_ret
      exact ⟨by rw [HH.out]; simp [*], rfl⟩

end Go.Proofs.YtjacbcephokbbaaDoor
