/- A Buddy as a part of a world: its lists hold just the blocks that the free frames tell; put and take so. -/
import Derived.Test.YtoiiblajgkdabaaBud2
import Derived.Test.YtoiiblajgkdabaaBudPlain
import Derived.Test.YtoiiblajgkdabaaSep2
namespace Go.Proofs.Ytoiiblajgkdabaa
set_option linter.unusedSimpArgs false
set_option linter.unusedVariables false
set_option maxRecDepth 100000
open Go.RowKit
set_option maxHeartbeats 4000000

/-- The lists hold just the blocks that are free. -/
def CanF (T : Nat → Prop) (F : Nat → List Int) : Prop := ∀ o, o < 9 → (F o).Pairwise (· < ·) ∧ ∀ f : Int, f ∈ F o ↔ ∃ a : Nat, f = ((a * 2 ^ o : Nat) : Int) ∧ QCan T a o
def Small (T : Nat → Prop) : Prop := ∀ x, T x → x < 256
theorem mul_lt {a b o : Nat} : ((a * 2 ^ o : Nat) : Int) = ((b * 2 ^ o : Nat) : Int) ↔ a = b := by
  constructor
  · intro h
    have : a * 2 ^ o = b * 2 ^ o := by omega
    exact Nat.eq_of_mul_eq_mul_right (Nat.two_pow_pos o) this
  · rintro rfl; rfl
theorem len_of_rise : ∀ (L : List Int) (lo hi : Int), L.Pairwise (· < ·) → (∀ x ∈ L, lo ≤ x ∧ x < hi) → lo ≤ hi → (L.length : Int) ≤ hi - lo
  | [], lo, hi, _, _, h => by simp; omega
  | x :: L, lo, hi, hp, hb, h => by
    obtain ⟨h1, h2⟩ := List.pairwise_cons.1 hp
    have hx := hb x (by simp)
    have ih := len_of_rise L (x + 1) hi h2 (fun y hy => ⟨by have := h1 y hy; omega, (hb y (by simp [hy])).2⟩) (by omega)
    simp only [List.length_cons]; push_cast; omega
theorem CanF.len {T : Nat → Prop} {F : Nat → List Int} (h : CanF T F) (hs : Small T) {o : Nat} (ho : o < 9) : (F o).length ≤ 256 := by
  have := len_of_rise (F o) 0 256 (h o ho).1 (fun f hf => by
    obtain ⟨a, rfl, hc⟩ := ((h o ho).2 f).1 hf
    have := hs _ (hc.1 _ (in_block a o))
    omega) (by omega)
  omega
theorem CanF.add {T : Nat → Prop} {F : Nat → List Int} (h : CanF T F) {a o : Nat} (ho : o ≤ 8) (hdis : ∀ x, x / 2 ^ o = a → ¬ T x) (hbud : o < 8 → ¬ QFull T (budQ a) o) :
    ((a * 2 ^ o : Nat) : Int) ∉ F o ∧ CanF (plusQ T a o) (upd F o (addL (F o) ((a * 2 ^ o : Nat) : Int))) := by
  have hnin : ((a * 2 ^ o : Nat) : Int) ∉ F o := fun hm => by
    obtain ⟨b, hb, hc⟩ := ((h o (by omega)).2 _).1 hm
    obtain rfl := mul_lt.1 hb
    exact hdis _ (in_block a o) (hc.1 _ (in_block a o))
  refine ⟨hnin, fun j hj => ?_⟩
  by_cases e : j = o
  · subst e
    rw [upd_same]
    refine ⟨rise_addL _ _ (h j hj).1 hnin, fun f => ?_⟩
    rw [mem_addL, (h j hj).2]
    constructor
    · rintro (rfl | ⟨b, rfl, hc⟩)
      · exact ⟨a, rfl, (can_plus ho hdis hbud a j (by omega)).2 (Or.inr ⟨rfl, rfl⟩)⟩
      · exact ⟨b, rfl, (can_plus ho hdis hbud b j (by omega)).2 (Or.inl hc)⟩
    · rintro ⟨b, rfl, hc⟩
      rcases (can_plus ho hdis hbud b j (by omega)).1 hc with hc | ⟨rfl, _⟩
      · exact Or.inr ⟨b, rfl, hc⟩
      · exact Or.inl rfl
  · rw [upd_other F _ e]
    refine ⟨(h j hj).1, fun f => ?_⟩
    rw [(h j hj).2]
    constructor
    · rintro ⟨b, rfl, hc⟩; exact ⟨b, rfl, (can_plus ho hdis hbud b j (by omega)).2 (Or.inl hc)⟩
    · rintro ⟨b, rfl, hc⟩
      rcases (can_plus ho hdis hbud b j (by omega)).1 hc with hc | ⟨_, e'⟩
      · exact ⟨b, rfl, hc⟩
      · exact absurd e' e
theorem CanF.del {T : Nat → Prop} {F : Nat → List Int} (h : CanF T F) {a o : Nat} (ho : o ≤ 8) (hc : QCan T a o) :
    ((a * 2 ^ o : Nat) : Int) ∈ F o ∧ CanF (minusQ T a o) (upd F o (delL (F o) ((a * 2 ^ o : Nat) : Int))) := by
  have hin : ((a * 2 ^ o : Nat) : Int) ∈ F o := ((h o (by omega)).2 _).2 ⟨a, rfl, hc⟩
  refine ⟨hin, fun j hj => ?_⟩
  by_cases e : j = o
  · subst e
    rw [upd_same]
    refine ⟨rise_delL _ _ (h j hj).1, fun f => ?_⟩
    rw [mem_delL _ _ _ (h j hj).1 hin, (h j hj).2]
    constructor
    · rintro ⟨hne, b, rfl, hb⟩
      exact ⟨b, rfl, (can_minus ho hc b j (by omega)).2 ⟨hb, fun e' => hne (by rw [e'.1])⟩⟩
    · rintro ⟨b, rfl, hb⟩
      obtain ⟨h1, h2⟩ := (can_minus ho hc b j (by omega)).1 hb
      exact ⟨fun e' => h2 ⟨mul_lt.1 e', rfl⟩, b, rfl, h1⟩
  · rw [upd_other F _ e]
    refine ⟨(h j hj).1, fun f => ?_⟩
    rw [(h j hj).2]
    constructor
    · rintro ⟨b, rfl, hb⟩; exact ⟨b, rfl, (can_minus ho hc b j (by omega)).2 ⟨hb, fun e' => e e'.2⟩⟩
    · rintro ⟨b, rfl, hb⟩; exact ⟨b, rfl, ((can_minus ho hc b j (by omega)).1 hb).1⟩

/-- A Buddy, told by its free frames and by what it has given. -/
def midP (pb pm : Nat) (T : Nat → Prop) (H : List Blk) : HP := exP fun x : Nat × (Nat → Value) × (Nat → List Int) => ownP (budS pb x.1 x.2.1) (fun w => BudIn w pb pm x.1 x.2.1 x.2.2 H ∧ CanF T x.2.2 ∧ Small T)
theorem loc_mid (pb pm hb : Nat) (V : Nat → Value) (F : Nat → List Int) (T : Nat → Prop) (H : List Blk) : Loc (budS pb hb V) (fun w => BudIn w pb pm hb V F H ∧ CanF T F ∧ Small T) := fun _ _ h e => ⟨h.1.heap e, h.2⟩
theorem Sat.mid {g w : World} {pb pm : Nat} {T : Nat → Prop} {H : List Blk} {R : HP} (h : Sat g w (midP pb pm T H * R)) :
    ∃ hb V F, BudIn w pb pm hb V F H ∧ CanF T F ∧ Small T ∧ ∀ w' F' H' T', BudPost w pb pm hb V F' H' w' → CanF T' F' → Small T' → Sat g w' (midP pb pm T' H' * R) := by
  obtain ⟨⟨hb, V, F⟩, h⟩ := h.ex
  have hi : BudIn w pb pm hb V F H ∧ CanF T F ∧ Small T := h.inv
  exact ⟨hb, V, F, hi.1, hi.2.1, hi.2.2, fun w' F' H' T' ⟨V', h1, h2, h3⟩ hc hs => Sat.ex' (hb, V', F') (h.touch h2 ⟨h1, hc, hs⟩ (loc_mid _ _ _ _ _ _ _) h3 h1.slt)⟩
theorem has_mid (pb pm : Nat) (T : Nat → Prop) (H : List Blk) : Has (midP pb pm T H) pb := has_ex fun _ => has_own (Or.inl rfl)
theorem small_plus {T : Nat → Prop} (h : Small T) {a o : Nat} (ha : (a + 1) * 2 ^ o ≤ 256) : Small (plusQ T a o) := fun x hx => by
  rcases hx with hx | hx
  · exact h x hx
  · have := Nat.lt_mul_of_div_lt (show x / 2 ^ o < a + 1 by omega) (Nat.two_pow_pos o)
    have h3 := Nat.mul_comm (2 ^ o) (a + 1)
    omega
theorem small_minus {T : Nat → Prop} (h : Small T) (a o : Nat) : Small (minusQ T a o) := fun x hx => h x hx.1

theorem s_bput (pb pm : Nat) (T : Nat → Prop) (H : List Blk) (a o : Nat) (f : Int) (g w : World) (R : HP) (h : Sat g w (midP pb pm T H * R)) (hf : f = ((a * 2 ^ o : Nat) : Int)) (ho : o ≤ 8) (ha : (a + 1) * 2 ^ o ≤ 256)
    (hdis : ∀ x, x / 2 ^ o = a → ¬ T x) (hbud : o < 8 → ¬ QFull T (budQ a) o) :
    Calls Try.prog 49 #[.pointer (some ⟨pb, 0, none⟩), .agg #[.int .i64 f, .int .i64 o]] w fun e w' => e = .returned (.tuple #[]) ∧ Sat g w' (midP pb pm (plusQ T a o) H * R) := by
  obtain ⟨hb, V, F, hi, hc, hs, back⟩ := h.mid
  subst hf
  obtain ⟨_, h2⟩ := hc.add ho hdis hbud
  exact (bput_any pb pm hb V F H _ o w hi (by omega) (hc o (by omega)).1 (by have := hc.len hs (o := o) (by omega); omega)).mono fun e w' ⟨he, hp⟩ => ⟨he, back _ _ _ _ hp h2 (small_plus hs ha)⟩
theorem s_btake (pb pm : Nat) (T : Nat → Prop) (H : List Blk) (a o : Nat) (f : Int) (g w : World) (R : HP) (h : Sat g w (midP pb pm T H * R)) (hf : f = ((a * 2 ^ o : Nat) : Int)) (ho : o ≤ 8) (hc : QCan T a o) :
    Calls Try.prog 48 #[.pointer (some ⟨pb, 0, none⟩), .agg #[.int .i64 f, .int .i64 o]] w fun e w' => e = .returned (.bool true) ∧ Sat g w' (midP pb pm (minusQ T a o) H * R) := by
  obtain ⟨hb, V, F, hi, hcan, hs, back⟩ := h.mid
  subst hf
  obtain ⟨h1, h2⟩ := hcan.del ho hc
  exact (take_yes pb pm hb V F H _ o w hi (by omega) (hcan o (by omega)).1 (by have := hcan.len hs (o := o) (by omega); omega) h1).mono fun e w' ⟨he, hp⟩ => ⟨he, back _ _ _ _ hp h2 (small_minus hs a o)⟩
theorem s_btake_no (pb pm : Nat) (T : Nat → Prop) (H : List Blk) (a o : Nat) (f : Int) (g w : World) (R : HP) (h : Sat g w (midP pb pm T H * R)) (hf : f = ((a * 2 ^ o : Nat) : Int)) (ho : o ≤ 8) (hc : ¬ QCan T a o) :
    Calls Try.prog 48 #[.pointer (some ⟨pb, 0, none⟩), .agg #[.int .i64 f, .int .i64 o]] w fun e w' => e = .returned (.bool false) ∧ Below w.heap.size w w' := by
  obtain ⟨hb, V, F, hi, hcan, hs, back⟩ := h.mid
  subst hf
  exact take_no pb pm hb V F H _ o w hi (by omega) (hcan o (by omega)).1 (by have := hcan.len hs (o := o) (by omega); omega) (fun hm => by
    obtain ⟨b, hb, hq⟩ := ((hcan o (by omega)).2 _).1 hm
    obtain rfl := mul_lt.1 hb
    exact hc hq)

end Go.Proofs.Ytoiiblajgkdabaa
