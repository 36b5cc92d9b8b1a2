/- Plain: which blocks are free, told by the free frames alone: each as great as it can be. -/
import Derived.Test.YtoiiblajgkdabaaBase
namespace Go.Proofs.Ytoiiblajgkdabaa
set_option linter.unusedSimpArgs false
set_option linter.unusedVariables false
set_option maxRecDepth 100000

/-- All numbers of block a of an order (those that come to a divided by its size) are in T. -/
def QFull (T : Nat → Prop) (a o : Nat) : Prop := ∀ x, x / 2 ^ o = a → T x
/-- A block that is free, and not half of one that is. -/
def QCan (T : Nat → Prop) (a o : Nat) : Prop := QFull T a o ∧ (o < 8 → ¬ QFull T (a / 2) (o + 1))
def budQ (a : Nat) : Nat := if a % 2 = 0 then a + 1 else a - 1
theorem budQ_ne (a : Nat) : budQ a ≠ a := by unfold budQ; split <;> omega
theorem budQ_half (a : Nat) : budQ a / 2 = a / 2 := by unfold budQ; split <;> omega
theorem half_two (a b : Nat) (h : b / 2 = a / 2) : b = a ∨ b = budQ a := by unfold budQ; split <;> omega
theorem div_up (x o d : Nat) : x / 2 ^ (o + d) = x / 2 ^ o / 2 ^ d := by rw [Nat.pow_add, Nat.div_div_eq_div_mul]
theorem div_one (x o : Nat) : x / 2 ^ (o + 1) = x / 2 ^ o / 2 := by rw [div_up]
theorem in_block (a o : Nat) : (a * 2 ^ o) / 2 ^ o = a := Nat.mul_div_cancel _ (Nat.two_pow_pos o)
theorem down_block (a d : Nat) : (a * 2 ^ d) / 2 ^ d = a := Nat.mul_div_cancel _ (Nat.two_pow_pos d)

/-- What is in T, and a block besides. -/
def plusQ (T : Nat → Prop) (a o : Nat) : Nat → Prop := fun x => T x ∨ x / 2 ^ o = a
def minusQ (T : Nat → Prop) (a o : Nat) : Nat → Prop := fun x => T x ∧ x / 2 ^ o ≠ a
theorem parent_full {T : Nat → Prop} {a o : Nat} (h : QFull T (a / 2) (o + 1)) : QFull T a o ∧ QFull T (budQ a) o :=
  ⟨fun x hx => h x (by rw [div_one, hx]), fun x hx => h x (by rw [div_one, hx, budQ_half])⟩
theorem full_parent {T : Nat → Prop} {a o : Nat} (h1 : QFull T a o) (h2 : QFull T (budQ a) o) : QFull T (a / 2) (o + 1) := fun x hx => by
  rw [div_one] at hx
  rcases half_two a _ hx with h | h
  · exact h1 x h
  · exact h2 x h
theorem full_up {T : Nat → Prop} {a o d b : Nat} (h : QFull T b (o + d)) (hb : a / 2 ^ d = b) : QFull T a o := fun x hx => h x (by rw [div_up, hx, hb])
theorem full_mono {T U : Nat → Prop} {a o : Nat} (h : QFull T a o) (hi : ∀ x, T x → U x) : QFull U a o := fun x hx => hi x (h x hx)

theorem can_plus {T : Nat → Prop} {a o : Nat} (ho : o ≤ 8) (hdis : ∀ x, x / 2 ^ o = a → ¬ T x) (hbud : o < 8 → ¬ QFull T (budQ a) o) (b j : Nat) (hj : j ≤ 8) :
    QCan (plusQ T a o) b j ↔ QCan T b j ∨ (b = a ∧ j = o) := by
  have hself : QFull (plusQ T a o) a o := fun x hx => Or.inr hx
  -- the half beside the block is not free with it
  have hnb : o < 8 → ¬ QFull (plusQ T a o) (budQ a) o := fun h8 hf => hbud h8 fun x hx => by
    rcases hf x hx with h | h
    · exact h
    · exact absurd (hx.symm.trans h) (budQ_ne a)
  have hnp : o < 8 → ¬ QFull (plusQ T a o) (a / 2) (o + 1) := fun h8 hf => hnb h8 (parent_full hf).2
  -- nothing that is greater than the block and holds it is free
  have hup : ∀ d c, o + d + 1 ≤ 8 → a / 2 ^ (d + 1) = c → ¬ QFull (plusQ T a o) c (o + (d + 1)) := fun d c hd hc hf => by
    refine hnp (by omega) ?_
    have : QFull (plusQ T a o) (a / 2) (o + 1) := full_up (d := d) (b := c) (by rw [show o + 1 + d = o + (d + 1) by omega]; exact hf) (by rw [← hc, Nat.pow_succ, Nat.mul_comm, Nat.div_div_eq_div_mul])
    exact this
  constructor
  · rintro ⟨h1, h2⟩
    rcases Nat.lt_trichotomy j o with hlt | rfl | hgt
    · -- smaller than the block
      obtain ⟨d, rfl⟩ : ∃ d, o = j + (d + 1) := ⟨o - j - 1, by omega⟩
      by_cases hin : b / 2 ^ (d + 1) = a
      · exfalso
        refine h2 (by omega) fun x hx => Or.inr ?_
        rw [show j + (d + 1) = j + 1 + d by omega, div_up, hx, ← hin, Nat.pow_succ, Nat.mul_comm, Nat.div_div_eq_div_mul]
      · left
        have hT : QFull T b j := fun x hx => (h1 x hx).resolve_right fun e => hin (by rw [← e, div_up x j (d + 1), hx])
        exact ⟨hT, fun h8 hf => h2 h8 (full_mono hf fun x => Or.inl)⟩
    · by_cases e : b = a
      · exact Or.inr ⟨e, rfl⟩
      · left
        have hT : QFull T b j := fun x hx => (h1 x hx).resolve_right fun e' => e (hx.symm.trans e')
        exact ⟨hT, fun h8 hf => h2 h8 (full_mono hf fun x => Or.inl)⟩
    · obtain ⟨d, rfl⟩ : ∃ d, j = o + (d + 1) := ⟨j - o - 1, by omega⟩
      by_cases hin : a / 2 ^ (d + 1) = b
      · exact absurd h1 (hup d b (by omega) hin)
      · left
        have hT : QFull T b (o + (d + 1)) := fun x hx => (h1 x hx).resolve_right fun e => hin (by rw [← hx, div_up x o (d + 1), e])
        exact ⟨hT, fun h8 hf => h2 h8 (full_mono hf fun x => Or.inl)⟩
  · rintro (⟨h1, h2⟩ | ⟨rfl, rfl⟩)
    · refine ⟨full_mono h1 fun x => Or.inl, fun h8 hf => ?_⟩
      -- the one that it is half of would be free with the block: so the block lies in the other half
      have hother : QFull (plusQ T a o) (budQ b) j := (parent_full hf).2
      by_cases hTo : QFull T (budQ b) j
      · exact h2 h8 (full_parent h1 hTo)
      · have : ∃ x, x / 2 ^ j = budQ b ∧ ¬ T x := by
          refine Classical.byContradiction fun hn => hTo fun x hx => Classical.byContradiction fun hx' => hn ⟨x, hx, hx'⟩
        obtain ⟨x, hx, hxT⟩ := this
        have hxa : x / 2 ^ o = a := (hother x hx).resolve_left hxT
        rcases Nat.lt_trichotomy j o with hlt | rfl | hgt
        · obtain ⟨d, rfl⟩ : ∃ d, o = j + (d + 1) := ⟨o - j - 1, by omega⟩
          -- the block holds both halves
          have hb : (b * 2 ^ j) / 2 ^ (j + (d + 1)) = a := by
            rw [div_up (b * 2 ^ j) j (d + 1), in_block, ← hxa, div_up x j (d + 1), hx]
            have h2 := budQ_half b
            rw [Nat.pow_succ, Nat.mul_comm, ← Nat.div_div_eq_div_mul, ← Nat.div_div_eq_div_mul, h2]
          exact hdis _ hb (h1 _ (in_block b j))
        · have : budQ b = a := by rw [← hx, hxa]
          refine hbud h8 ?_
          have hbb : budQ a = b := by rw [← this]; unfold budQ; split <;> split <;> omega
          rw [hbb]; exact h1
        · obtain ⟨d, rfl⟩ : ∃ d, j = o + (d + 1) := ⟨j - o - 1, by omega⟩
          have hin : a / 2 ^ (d + 1) = budQ b := by rw [← hx, div_up x o (d + 1), hxa]
          exact hup d _ (by omega) hin hother
    · exact ⟨hself, hnp⟩

theorem can_minus {T : Nat → Prop} {a o : Nat} (ho : o ≤ 8) (hc : QCan T a o) (b j : Nat) (hj : j ≤ 8) :
    QCan (minusQ T a o) b j ↔ QCan T b j ∧ ¬ (b = a ∧ j = o) := by
  -- T is what is left, and the block besides
  have hT : plusQ (minusQ T a o) a o = T := by
    funext x
    apply propext
    unfold plusQ minusQ
    constructor
    · rintro (⟨h, _⟩ | h)
      · exact h
      · exact hc.1 x h
    · intro h
      by_cases e : x / 2 ^ o = a
      · exact Or.inr e
      · exact Or.inl ⟨h, e⟩
  have hdis : ∀ x, x / 2 ^ o = a → ¬ minusQ T a o x := fun x hx h => h.2 hx
  have hbud : o < 8 → ¬ QFull (minusQ T a o) (budQ a) o := fun h8 hf => hc.2 h8 (full_parent hc.1 (full_mono hf fun x h => h.1))
  have h := can_plus ho hdis hbud b j hj
  rw [hT] at h
  constructor
  · intro h1
    refine ⟨h.2 (Or.inl h1), ?_⟩
    rintro ⟨rfl, rfl⟩
    exact hdis _ (in_block b j) (h1.1 _ (in_block b j))
  · rintro ⟨h1, h2⟩
    exact (h.1 h1).resolve_right h2

/-- The half beside a block: free as a whole just if it is one of the free ones. -/
theorem bud_can {T : Nat → Prop} {a o : Nat} (ho : o < 8) (hdis : ∀ x, x / 2 ^ o = a → ¬ T x) : QFull T (budQ a) o ↔ QCan T (budQ a) o := by
  refine ⟨fun h => ⟨h, fun _ hf => ?_⟩, fun h => h.1⟩
  rw [budQ_half] at hf
  exact hdis _ (in_block a o) ((parent_full hf).1 _ (in_block a o))

end Go.Proofs.Ytoiiblajgkdabaa
