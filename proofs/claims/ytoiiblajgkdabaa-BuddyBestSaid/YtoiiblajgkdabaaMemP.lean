/- A memory, and the reference's, as parts of a world. -/
import Derived.Test.YtoiiblajgkdabaaSep2
import Derived.Test.YtoiiblajgkdabaaMem
import Derived.Test.YtoiiblajgkdabaaRef02
namespace Go.Proofs.Ytoiiblajgkdabaa
set_option linter.unusedSimpArgs false
set_option linter.unusedVariables false
set_option maxRecDepth 100000
open Go.RowKit
set_option maxHeartbeats 4000000

theorem heap_ltm {w w' : World} {k : Nat} (e : w'.heap[k]? = w.heap[k]?) (h : k < w.heap.size) : k < w'.heap.size := by
  rcases Nat.lt_or_ge k w'.heap.size with h' | h'
  · exact h'
  · rw [Array.getElem?_eq_none h', Array.getElem?_eq_getElem h] at e; cases e
def memP (pm n : Nat) (W : Nat → Int) : HP := exP fun bk : Nat => ownP (fun k => k = pm ∨ k = bk) (fun w => MemIn w pm bk n W)
theorem loc_mem (pm bk n : Nat) (W : Nat → Int) : Loc (fun k => k = pm ∨ k = bk) (fun w => MemIn w pm bk n W) := fun w w' h e =>
  ⟨(cell_of_heap (e pm (Or.inl rfl)) _).trans h.ptr, fun i hi => (cell_of_heap (e bk (Or.inr rfl)) _).trans (h.cell i hi), fun i hi => (frozen_of_heap (e bk (Or.inr rfl)) _).trans (h.free i hi), h.lo, h.hi, heap_ltm (e pm (Or.inl rfl)) h.pm_lt, heap_ltm (e bk (Or.inr rfl)) h.bk_lt, h.ne, h.n1, h.n2⟩
theorem has_mem (pm n : Nat) (W : Nat → Int) : Has (memP pm n W) pm := has_ex fun _ => has_own (Or.inl rfl)
theorem Sat.mem {g w : World} {pm n : Nat} {W : Nat → Int} {R : HP} (h : Sat g w (memP pm n W * R)) :
    ∃ bk, MemIn w pm bk n W ∧ (∀ b, Has R b → pm ≠ b ∧ bk ≠ b) ∧ ∀ w' W', Touch (· = bk) w w' → MemIn w' pm bk n W' → Sat g w' (memP pm n W' * R) := by
  obtain ⟨bk, h⟩ := h.ex
  have hi : MemIn w pm bk n W := h.inv
  refine ⟨bk, hi, fun b hb => ⟨fun e => h.free hb (Or.inl e.symm), fun e => h.free hb (Or.inr e.symm)⟩, fun w' W' t m => Sat.ex' bk (h.touch (t.mono fun k _ hk => Or.inr hk) m (loc_mem _ _ _ _) (fun k hk => Or.inl hk) (fun k hk => ?_))⟩
  rcases hk with rfl | rfl
  · exact m.pm_lt
  · exact m.bk_lt
theorem Sat.mem_new {g w w' : World} {pm bk n : Nat} {W : Nat → Int} {R : HP} (h : Sat g w R) (b : Below w.heap.size w w') (m : MemIn w' pm bk n W) (h1 : w.heap.size ≤ pm) (h2 : w.heap.size ≤ bk) : Sat g w' (memP pm n W * R) :=
  Sat.ex' bk (h.new b m (loc_mem _ _ _ _) (fun k hk => by rcases hk with rfl | rfl; exact h1; exact h2) (fun k hk => by rcases hk with rfl | rfl; exact m.pm_lt; exact m.bk_lt))

/-! ### The reference's memory -/
def refP (pm n : Nat) (W : Nat → Int) : HP := exP fun bk : Nat => ownP (fun k => k = pm ∨ k = bk) (fun w => RefIn w pm bk n W)
theorem loc_ref (pm bk n : Nat) (W : Nat → Int) : Loc (fun k => k = pm ∨ k = bk) (fun w => RefIn w pm bk n W) := fun w w' h e =>
  ⟨(cell_of_heap (e pm (Or.inl rfl)) _).trans h.ptr, fun i hi => (cell_of_heap (e bk (Or.inr rfl)) _).trans (h.cell i hi), fun i hi => (frozen_of_heap (e bk (Or.inr rfl)) _).trans (h.free i hi), h.lo, h.hi, heap_ltm (e pm (Or.inl rfl)) h.pr_lt, heap_ltm (e bk (Or.inr rfl)) h.br_lt, h.ne, h.n1, h.n2⟩
theorem has_ref (pm n : Nat) (W : Nat → Int) : Has (refP pm n W) pm := has_ex fun _ => has_own (Or.inl rfl)
theorem Sat.ref {g w : World} {pm n : Nat} {W : Nat → Int} {R : HP} (h : Sat g w (refP pm n W * R)) :
    ∃ bk, RefIn w pm bk n W ∧ (∀ b, Has R b → pm ≠ b ∧ bk ≠ b) ∧ ∀ w' W', Touch (· = bk) w w' → RefIn w' pm bk n W' → Sat g w' (refP pm n W' * R) := by
  obtain ⟨bk, h⟩ := h.ex
  have hi : RefIn w pm bk n W := h.inv
  refine ⟨bk, hi, fun b hb => ⟨fun e => h.free hb (Or.inl e.symm), fun e => h.free hb (Or.inr e.symm)⟩, fun w' W' t m => Sat.ex' bk (h.touch (t.mono fun k _ hk => Or.inr hk) m (loc_ref _ _ _ _) (fun k hk => Or.inl hk) (fun k hk => ?_))⟩
  rcases hk with rfl | rfl
  · exact m.pr_lt
  · exact m.br_lt
theorem Sat.ref_new {g w w' : World} {pm bk n : Nat} {W : Nat → Int} {R : HP} (h : Sat g w R) (b : Below w.heap.size w w') (m : RefIn w' pm bk n W) (h1 : w.heap.size ≤ pm) (h2 : w.heap.size ≤ bk) : Sat g w' (refP pm n W * R) :=
  Sat.ex' bk (h.new b m (loc_ref _ _ _ _) (fun k hk => by rcases hk with rfl | rfl; exact h1; exact h2) (fun k hk => by rcases hk with rfl | rfl; exact m.pr_lt; exact m.br_lt))

/-! ### The buffer -/

end Go.Proofs.Ytoiiblajgkdabaa
