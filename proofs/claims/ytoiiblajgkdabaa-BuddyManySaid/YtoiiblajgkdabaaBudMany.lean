/- Alloc told by the block's place; how many blocks of an order are free as a whole. -/
import Derived.Test.YtoiiblajgkdabaaAwake04
namespace Go.Proofs.Ytoiiblajgkdabaa
set_option linter.unusedSimpArgs false
set_option linter.unusedVariables false
set_option maxRecDepth 100000
open Go.RowKit
set_option maxHeartbeats 4000000

/-- What Alloc does, told by the block's place among those of its order. -/
inductive AllocAt (g : World) (pb pm : Nat) (T : Nat → Prop) (H : List Blk) (order : Nat) (R : HP) (e : Ending) (w' : World) : Prop
  | no (he : e = .returned (.tuple #[.int .i64 0, .int .i64 6])) (hn : ∀ c, ¬ QFull T c order) (hs : Sat g w' (midP pb pm T H * R))
  | yes (c : Nat) (hc : QFull T c order) (he : e = .returned (.tuple #[.int .i64 ((c * 2 ^ order : Nat) : Int), .int .i64 0])) (hs : Sat g w' (midP pb pm (minusQ T c order) (H ++ [(((c * 2 ^ order : Nat) : Int), (order : Int))]) * R))
theorem alloc_at {g : World} {pb pm : Nat} {T : Nat → Prop} {H : List Blk} {order : Nat} {R : HP} {e : Ending} {w' : World} (ho : order ≤ 8) (h : AllocPost g pb pm T H order R e w') : AllocAt g pb pm T H order R e w' := by
  cases h with
  | no he hn hs =>
    refine .no he (fun c hc => ?_) hs
    obtain ⟨b, k, h1, h2, h3, _⟩ := full_can (8 - order) c order (by omega) hc
    exact hn k h1 h2 b h3
  | yes a k f hk hk8 hc hl hf hff he hs =>
    obtain ⟨d, rfl⟩ : ∃ d, k = order + d := ⟨k - order, by omega⟩
    have hfe : f = (a * 2 ^ d) * 2 ^ order := by rw [hff, Nat.pow_add, Nat.mul_assoc, Nat.mul_comm (2 ^ d)]
    have hd : f / 2 ^ order = a * 2 ^ d := by rw [hfe]; exact in_block _ _
    rw [hd] at hs
    rw [hfe] at he hs
    exact .yes (a * 2 ^ d) (full_up (d := d) (b := a) hc.1 (in_block a d)) he hs
theorem s_alloc_at (pb pm : Nat) (T : Nat → Prop) (H : List Blk) (order r n : Nat) (g w : World) (R : HP) (h : Sat g w (midP pb pm T H * R)) (ho : order ≤ 8) (hi : InvB r n T H) :
    Calls Try.prog 16 #[.pointer (some ⟨pb, 0, none⟩), .int .i64 order] w (AllocAt g pb pm T H order R) := by
  refine (s_alloc pb pm T H order g w R h ho (fun x hx o hm => ?_)).mono fun e w' hp => alloc_at ho hp
  obtain ⟨a, k, _, hk⟩ := hi.blk _ hm
  refine hi.apart _ hm x ?_ hx
  rw [hk]
  refine (inB_of a k x).2 ?_
  have : (x : Int) = ((a * 2 ^ k : Nat) : Int) := congrArg Prod.fst hk
  have hx' : x = a * 2 ^ k := by omega
  rw [hx']; exact in_block a k

/-- How many blocks of an order are free as a whole. -/
noncomputable def numF (T : Nat → Prop) (o : Nat) : Nat := cnt (fun a => QFull T a o) 256
theorem full_minus {T : Nat → Prop} {c o : Nat} (a : Nat) : QFull (minusQ T c o) a o ↔ QFull T a o ∧ a ≠ c := by
  constructor
  · intro h
    refine ⟨fun x hx => (h x hx).1, fun e => ?_⟩
    exact (h _ (in_block a o)).2 (by rw [in_block]; exact e)
  · rintro ⟨h, hne⟩ x hx
    exact ⟨h x hx, fun e => hne (by rw [← hx, e])⟩
theorem lt_of_full {T : Nat → Prop} {c o : Nat} (hs : Small T) (h : QFull T c o) : c < 256 := by
  have h1 := full_small' hs h
  have h0 := Nat.two_pow_pos o
  have : (c + 1) * 1 ≤ (c + 1) * 2 ^ o := Nat.mul_le_mul_left _ h0
  omega
theorem numF_minus {T : Nat → Prop} {c o : Nat} (hs : Small T) (h : QFull T c o) : numF T o = numF (minusQ T c o) o + 1 := by
  unfold numF
  have h1 := cnt_add (T := fun a => QFull T a o) (A := fun a => QFull (minusQ T c o) a o) (B := fun a => c ≤ a ∧ a < c + 1) (fun a => by
    rw [full_minus]
    constructor
    · intro hf
      by_cases e : a = c
      · exact Or.inr (by omega)
      · exact Or.inl ⟨hf, e⟩
    · rintro (hf | hf)
      · exact hf.1
      · have : a = c := by omega
        rw [this]; exact h) (fun a h1 h2 => ((full_minus a).1 h1).2 (by omega)) 256
  rw [h1, cnt_int c 1 256 (by have := lt_of_full hs h; omega)]
theorem numF_none {T : Nat → Prop} {o : Nat} (h : ∀ c, ¬ QFull T c o) : numF T o = 0 := cnt_zero 256 fun x _ => h x
theorem numF_start (n o : Nat) (hn : n ≤ 256) : numF (rangeT 0 n) o = n / 2 ^ o := by
  have h0 := Nat.two_pow_pos o
  unfold numF
  rw [cnt_congr (U := fun a => 0 ≤ a ∧ a < 0 + n / 2 ^ o) 256 (fun a _ => by
    rw [full_range]
    have := Nat.le_div_iff_mul_le (k := 2 ^ o) (x := a + 1) (y := n) h0
    omega)]
  exact cnt_int 0 _ 256 (by have := Nat.div_le_self n (2 ^ o); omega)

end Go.Proofs.Ytoiiblajgkdabaa
