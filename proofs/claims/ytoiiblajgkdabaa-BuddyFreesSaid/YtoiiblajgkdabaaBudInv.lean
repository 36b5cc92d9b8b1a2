/- Plain: what stays true of a Buddy: given blocks and free frames are apart and all there is; how many are free. -/
import Derived.Test.YtoiiblajgkdabaaBudPlain
import Derived.Test.YtoiiblajgkdabaaMapB
import Derived.Test.YtoiiblajgkdabaaBud3
import Derived.Test.YtoiiblajgkdabaaBud8
namespace Go.Proofs.Ytoiiblajgkdabaa
set_option linter.unusedSimpArgs false
set_option linter.unusedVariables false
set_option maxRecDepth 100000
open Go.RowKit

theorem full_can {T : Nat → Prop} : ∀ (d a o : Nat), o + d = 8 → QFull T a o → ∃ b k, o ≤ k ∧ k ≤ 8 ∧ QCan T b k ∧ a / 2 ^ (k - o) = b
  | 0, a, o, h, hf => ⟨a, o, Nat.le_refl _, by omega, ⟨hf, fun h8 => absurd h8 (by omega)⟩, by simp⟩
  | d + 1, a, o, h, hf => by
    by_cases hp : QFull T (a / 2) (o + 1)
    · obtain ⟨b, k, h1, h2, h3, h4⟩ := full_can d (a / 2) (o + 1) (by omega) hp
      refine ⟨b, k, by omega, h2, h3, ?_⟩
      rw [← h4, Nat.div_div_eq_div_mul, show k - o = (k - (o + 1)) + 1 by omega, Nat.pow_succ, Nat.mul_comm 2]
    · exact ⟨a, o, Nat.le_refl _, by omega, ⟨hf, fun _ => hp⟩, by simp⟩

/-- Is a frame in a block? -/
def inB (b : Blk) (x : Nat) : Prop := x / 2 ^ b.2.toNat = b.1.toNat / 2 ^ b.2.toNat
theorem inB_of (a o x : Nat) : inB (((a * 2 ^ o : Nat) : Int), (o : Int)) x ↔ x / 2 ^ o = a := by
  unfold inB
  simp only [Int.toNat_natCast]
  rw [in_block]
structure InvB (r n : Nat) (T : Nat → Prop) (H : List Blk) : Prop where
  cov : ∀ x, (r ≤ x ∧ x < n) ↔ (T x ∨ ∃ b ∈ H, inB b x)
  blk : ∀ b ∈ H, ∃ a o : Nat, o ≤ 8 ∧ b = (((a * 2 ^ o : Nat) : Int), (o : Int))
  apart : ∀ b ∈ H, ∀ x, inB b x → ¬ T x
  disj : ∀ b ∈ H, ∀ b' ∈ H, ∀ x, inB b x → inB b' x → b = b'
  nodup : H.Nodup
theorem inv_new (r n : Nat) : InvB r n (rangeT r n) [] :=
  ⟨fun x => by simp [rangeT], by simp, by simp, by simp, List.nodup_nil⟩
theorem inv_alloc {r n : Nat} {T : Nat → Prop} {H : List Blk} (h : InvB r n T H) {c o : Nat} (ho : o ≤ 8) (hf : QFull T c o) :
    InvB r n (minusQ T c o) (H ++ [(((c * 2 ^ o : Nat) : Int), (o : Int))]) := by
  have hnew : ∀ x, inB (((c * 2 ^ o : Nat) : Int), (o : Int)) x → T x := fun x hx => hf x ((inB_of c o x).1 hx)
  refine ⟨fun x => ?_, fun b hb => ?_, fun b hb x hx => ?_, fun b hb b' hb' x hx hx' => ?_, ?_⟩
  · rw [h.cov]
    constructor
    · rintro (h1 | ⟨b, hb, hx⟩)
      · by_cases e : x / 2 ^ o = c
        · exact Or.inr ⟨_, List.mem_append_right _ (List.mem_singleton.2 rfl), (inB_of c o x).2 e⟩
        · exact Or.inl ⟨h1, e⟩
      · exact Or.inr ⟨b, List.mem_append_left _ hb, hx⟩
    · rintro (h1 | ⟨b, hb, hx⟩)
      · exact Or.inl h1.1
      · rcases List.mem_append.1 hb with hb | hb
        · exact Or.inr ⟨b, hb, hx⟩
        · rw [List.mem_singleton.1 hb] at hx
          exact Or.inl (hnew x hx)
  · rcases List.mem_append.1 hb with hb | hb
    · exact h.blk b hb
    · exact ⟨c, o, ho, List.mem_singleton.1 hb⟩
  · rcases List.mem_append.1 hb with hb | hb
    · exact fun h1 => h.apart b hb x hx h1.1
    · rw [List.mem_singleton.1 hb] at hx
      exact fun h1 => h1.2 ((inB_of c o x).1 hx)
  · rcases List.mem_append.1 hb with hb | hb <;> rcases List.mem_append.1 hb' with hb' | hb'
    · exact h.disj b hb b' hb' x hx hx'
    · rw [List.mem_singleton.1 hb'] at hx'
      exact absurd (hnew x hx') (h.apart b hb x hx)
    · rw [List.mem_singleton.1 hb] at hx
      exact absurd (hnew x hx) (h.apart b' hb' x hx')
    · rw [List.mem_singleton.1 hb, List.mem_singleton.1 hb']
  · refine List.nodup_append.2 ⟨h.nodup, by simp, fun y hy z hz => ?_⟩
    rintro rfl
    rw [List.mem_singleton.1 hz] at hy
    have hx := (inB_of c o (c * 2 ^ o)).2 (in_block c o)
    exact h.apart _ hy _ hx (hnew _ hx)
theorem inv_free {r n : Nat} {T : Nat → Prop} {H : List Blk} (h : InvB r n T H) {c o : Nat} (hin : (((c * 2 ^ o : Nat) : Int), (o : Int)) ∈ H) :
    InvB r n (plusQ T c o) (H.erase (((c * 2 ^ o : Nat) : Int), (o : Int))) := by
  have hm : ∀ b, b ∈ H.erase (((c * 2 ^ o : Nat) : Int), (o : Int)) ↔ b ≠ (((c * 2 ^ o : Nat) : Int), (o : Int)) ∧ b ∈ H := fun b => h.nodup.mem_erase_iff
  refine ⟨fun x => ?_, fun b hb => h.blk b ((hm b).1 hb).2, fun b hb x hx => ?_, fun b hb b' hb' x hx hx' => h.disj b ((hm b).1 hb).2 b' ((hm b').1 hb').2 x hx hx', h.nodup.erase _⟩
  · rw [h.cov]
    constructor
    · rintro (h1 | ⟨b, hb, hx⟩)
      · exact Or.inl (Or.inl h1)
      · by_cases e : b = (((c * 2 ^ o : Nat) : Int), (o : Int))
        · rw [e] at hx; exact Or.inl (Or.inr ((inB_of c o x).1 hx))
        · exact Or.inr ⟨b, (hm b).2 ⟨e, hb⟩, hx⟩
    · rintro ((h1 | h1) | ⟨b, hb, hx⟩)
      · exact Or.inl h1
      · exact Or.inr ⟨_, hin, (inB_of c o x).2 h1⟩
      · exact Or.inr ⟨b, ((hm b).1 hb).2, hx⟩
  · obtain ⟨hne, hb⟩ := (hm b).1 hb
    rintro (h1 | h1)
    · exact h.apart b hb x hx h1
    · exact hne (h.disj b hb _ hin x hx ((inB_of c o x).2 h1))

/-! ### How many -/
open Classical in
noncomputable def cnt (T : Nat → Prop) : Nat → Nat
  | 0 => 0
  | k + 1 => cnt T k + if T k then 1 else 0
theorem cnt_congr {T U : Nat → Prop} : ∀ k, (∀ x, x < k → (T x ↔ U x)) → cnt T k = cnt U k
  | 0, _ => rfl
  | k + 1, h => by
    unfold cnt
    rw [cnt_congr k (fun x hx => h x (by omega))]
    have := h k (by omega)
    by_cases hT : T k
    · rw [if_pos hT, if_pos (this.1 hT)]
    · rw [if_neg hT, if_neg (fun hu => hT (this.2 hu))]
theorem cnt_add {T A B : Nat → Prop} (h : ∀ x, T x ↔ A x ∨ B x) (hd : ∀ x, A x → ¬ B x) : ∀ k, cnt T k = cnt A k + cnt B k
  | 0 => rfl
  | k + 1 => by
    unfold cnt
    rw [cnt_add h hd k]
    by_cases hA : A k
    · rw [if_pos ((h k).2 (Or.inl hA)), if_pos hA, if_neg (hd k hA)]; omega
    · by_cases hB : B k
      · rw [if_pos ((h k).2 (Or.inr hB)), if_neg hA, if_pos hB]; omega
      · rw [if_neg (fun ht => ((h k).1 ht).elim hA hB), if_neg hA, if_neg hB]; omega
theorem cnt_range (s : Nat) : ∀ k, cnt (fun x => s ≤ x) k = k - s
  | 0 => by simp [cnt]
  | k + 1 => by
    unfold cnt
    rw [cnt_range s k]
    by_cases h : s ≤ k
    · rw [if_pos h]; omega
    · rw [if_neg h]; omega
theorem cnt_int (s m : Nat) : ∀ k, s + m ≤ k → cnt (fun x => s ≤ x ∧ x < s + m) k = m := fun k hk => by
  have h := cnt_add (T := fun x => s ≤ x) (A := fun x => s ≤ x ∧ x < s + m) (B := fun x => s + m ≤ x) (fun x => by omega) (fun x h1 h2 => by omega) k
  rw [cnt_range, cnt_range] at h
  omega
theorem block_iff (a o x : Nat) : x / 2 ^ o = a ↔ (a * 2 ^ o ≤ x ∧ x < a * 2 ^ o + 2 ^ o) := by
  have h0 := Nat.two_pow_pos o
  rw [Nat.div_eq_iff h0, Nat.mul_comm]
  omega
theorem cnt_block (a o k : Nat) (h : (a + 1) * 2 ^ o ≤ k) : cnt (fun x => x / 2 ^ o = a) k = 2 ^ o := by
  rw [cnt_congr (U := fun x => a * 2 ^ o ≤ x ∧ x < a * 2 ^ o + 2 ^ o) k (fun x _ => block_iff a o x)]
  exact cnt_int _ _ _ (by rw [Nat.add_mul] at h; omega)
theorem cnt_minus {T : Nat → Prop} {a o k : Nat} (hf : QFull T a o) (h : (a + 1) * 2 ^ o ≤ k) : cnt T k = cnt (minusQ T a o) k + 2 ^ o := by
  rw [← cnt_block a o k h]
  refine cnt_add (fun x => ?_) (fun x h1 h2 => h1.2 h2) k
  unfold minusQ
  constructor
  · intro hx
    by_cases e : x / 2 ^ o = a
    · exact Or.inr e
    · exact Or.inl ⟨hx, e⟩
  · rintro (h1 | h1)
    · exact h1.1
    · exact hf x h1
theorem cnt_plus {T : Nat → Prop} {a o k : Nat} (hd : ∀ x, x / 2 ^ o = a → ¬ T x) (h : (a + 1) * 2 ^ o ≤ k) : cnt (plusQ T a o) k = cnt T k + 2 ^ o := by
  rw [← cnt_block a o k h]
  exact cnt_add (fun x => Iff.rfl) (fun x h1 h2 => hd x h2 h1) k
theorem cnt_zero {T : Nat → Prop} : ∀ k, (∀ x, x < k → ¬ T x) → cnt T k = 0
  | 0, _ => rfl
  | k + 1, h => by
    unfold cnt
    rw [cnt_zero k (fun x hx => h x (by omega)), if_neg (h k (by omega))]
theorem sumF_upd (F : Nat → List Int) (o : Nat) (L : List Int) : ∀ k, sumF (upd F o L) k + (if o < k then (F o).length * 2 ^ o else 0) = sumF F k + (if o < k then L.length * 2 ^ o else 0)
  | 0 => by simp [sumF]
  | k + 1 => by
    have ih := sumF_upd F o L k
    unfold sumF
    rcases Nat.lt_trichotomy o k with h | rfl | h
    · rw [upd_other F L (by omega : k ≠ o), if_pos (by omega), if_pos (by omega)]
      rw [if_pos h, if_pos h] at ih
      omega
    · rw [upd_same, if_pos (by omega), if_pos (by omega)]
      rw [if_neg (by omega), if_neg (by omega)] at ih
      omega
    · rw [upd_other F L (by omega : k ≠ o), if_neg (by omega), if_neg (by omega)]
      rw [if_neg (by omega), if_neg (by omega)] at ih
      omega
theorem sumF_nil (F : Nat → List Int) : ∀ k, (∀ o, o < k → F o = []) → sumF F k = 0
  | 0, _ => rfl
  | k + 1, h => by
    unfold sumF
    rw [sumF_nil F k (fun o ho => h o (by omega)), h k (by omega)]; simp
theorem len_delL (L : List Int) (x : Int) (h : L.Pairwise (· < ·)) (hx : x ∈ L) : (delL L x).length = L.length - 1 := by
  obtain ⟨hi, _⟩ := at_count L x h hx
  unfold delL
  rw [List.length_eraseIdx_of_lt hi]
theorem full_small' {T : Nat → Prop} {c j : Nat} (h : Small T) (hq : QFull T c j) : (c + 1) * 2 ^ j ≤ 256 := by
  have h0 := Nat.two_pow_pos j
  have h1 := h _ (hq (c * 2 ^ j + (2 ^ j - 1)) (by rw [Nat.add_comm, Nat.add_mul_div_right _ _ h0, Nat.div_eq_of_lt (by omega)]; omega))
  rw [Nat.add_mul]; omega
theorem sum_cnt : ∀ (m : Nat) (T : Nat → Prop) (F : Nat → List Int), cnt T 256 ≤ m → CanF T F → Small T → sumF F 9 = cnt T 256 := by
  intro m
  induction m with
  | zero =>
    intro T F hm h hs
    have : ∀ o, o < 9 → F o = [] := fun o ho => by
      refine List.eq_nil_iff_forall_not_mem.2 fun f hf => ?_
      obtain ⟨a, rfl, hc⟩ := ((h o ho).2 f).1 hf
      have h1 := cnt_minus hc.1 (full_small' hs hc.1)
      have := Nat.two_pow_pos o
      omega
    rw [sumF_nil F 9 this]; omega
  | succ m ih =>
    intro T F hm h hs
    by_cases hall : ∀ o, o < 9 → F o = []
    · rw [sumF_nil F 9 hall]
      refine (cnt_zero 256 fun x _ hT => ?_).symm
      obtain ⟨b, k, _, hk, hc, _⟩ := full_can (T := T) 8 x 0 rfl (fun y hy => by rw [Nat.pow_zero, Nat.div_one] at hy; rw [hy]; exact hT)
      have := ((h k (by omega)).2 _).2 ⟨b, rfl, hc⟩
      rw [hall k (by omega)] at this
      simp at this
    · obtain ⟨o, ho⟩ := Classical.not_forall.1 hall
      obtain ⟨ho9, hne⟩ := Classical.not_imp.1 ho
      obtain ⟨f, hf⟩ := List.exists_mem_of_ne_nil _ hne
      obtain ⟨a, rfl, hc⟩ := ((h o ho9).2 f).1 hf
      obtain ⟨h1, h2⟩ := h.del (by omega) hc
      have h3 := cnt_minus hc.1 (full_small' hs hc.1)
      have h4 := ih (minusQ T a o) _ (by have := Nat.two_pow_pos o; omega) h2 (small_minus hs a o)
      have h5 := sumF_upd F o (delL (F o) ((a * 2 ^ o : Nat) : Int)) 9
      rw [if_pos ho9, if_pos ho9, h4, len_delL _ _ (h o ho9).1 h1] at h5
      have h6 : 0 < (F o).length := List.length_pos_of_mem h1
      have h7 : (F o).length * 2 ^ o = ((F o).length - 1) * 2 ^ o + 2 ^ o := by
        obtain ⟨q, hq⟩ : ∃ q, (F o).length = q + 1 := ⟨(F o).length - 1, by omega⟩
        rw [hq, Nat.add_mul]; simp
      omega

end Go.Proofs.Ytoiiblajgkdabaa
