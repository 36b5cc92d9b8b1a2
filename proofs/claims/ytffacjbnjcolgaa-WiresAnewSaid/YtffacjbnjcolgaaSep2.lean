/- Worlds in parts: which blocks a part has, and parts in another order. -/
import Derived.Test.YtffacjbnjcolgaaSep
namespace Go.Proofs.Ytffacjbnjcolgaa
set_option linter.unusedSimpArgs false
set_option linter.unusedVariables false
set_option maxRecDepth 100000
open Go.RowKit

/-- A part always has a block. -/
def Has (P : HP) (b : Nat) : Prop := ∀ h : PH, P h → h b ≠ none
theorem has_own {S : Nat → Prop} {I : World → Prop} {b : Nat} (h : S b) : Has (ownP S I) b := fun _ p => (p.1 b).1 h
theorem has_ex {α : Sort _} {P : α → HP} {b : Nat} (h : ∀ x, Has (P x) b) : Has (exP P) b := fun _ ⟨x, p⟩ => h x _ p
theorem has_left {P Q : HP} {b : Nat} (h : Has P b) : Has (P * Q) b := fun _ ⟨x, y, _, e, p, _⟩ => by
  rw [e]; intro hn; exact h x p (PH.both_none.1 hn).1
theorem has_right {P Q : HP} {b : Nat} (h : Has Q b) : Has (P * Q) b := by rw [star_comm]; exact has_left h
theorem Sat.free {g w : World} {S : Nat → Prop} {I : World → Prop} {R : HP} (h : Sat g w (ownP S I * R)) {b : Nat} (hb : Has R b) : ¬ S b := by
  obtain ⟨_, _, _, x, hx, p, q, hpq, rfl, ⟨hp, _⟩, hq⟩ := h
  intro hs
  rcases hpq b with e | e
  · exact (hp b).1 hs e
  · exact hb q hq e
theorem Sat.has_lt {g w : World} {P : HP} (h : Sat g w P) {b : Nat} (hb : Has P b) : b < w.heap.size := by
  obtain ⟨_, _, _, x, hx, p⟩ := h
  cases e : x b with
  | none => exact absurd e (hb x p)
  | some o => exact heap_lt (hx b o e)
theorem Sat.ne {g w : World} {P Q : HP} (h : Sat g w (P * Q)) {a b : Nat} (ha : Has P a) (hb : Has Q b) : a ≠ b := by
  obtain ⟨_, _, _, x, hx, p, q, hpq, rfl, hp, hq⟩ := h
  rintro rfl
  rcases hpq a with e | e
  · exact ha p hp e
  · exact hb q hq e
theorem Sat.swap {g w : World} {A B R : HP} (h : Sat g w (A * (B * R))) : Sat g w (B * (A * R)) := h.perm (by ac_rfl)
theorem Sat.up3 {g w : World} {A B C R : HP} (h : Sat g w (A * (B * (C * R)))) : Sat g w (C * (A * (B * R))) := h.perm (by ac_rfl)
theorem Sat.down3 {g w : World} {A B C R : HP} (h : Sat g w (C * (A * (B * R)))) : Sat g w (A * (B * (C * R))) := h.perm (by ac_rfl)
theorem Sat.up4 {g w : World} {A B C D R : HP} (h : Sat g w (A * (B * (C * (D * R))))) : Sat g w (D * (A * (B * (C * R)))) := h.perm (by ac_rfl)
theorem Sat.down4 {g w : World} {A B C D R : HP} (h : Sat g w (D * (A * (B * (C * R))))) : Sat g w (A * (B * (C * (D * R)))) := h.perm (by ac_rfl)


end Go.Proofs.Ytffacjbnjcolgaa
