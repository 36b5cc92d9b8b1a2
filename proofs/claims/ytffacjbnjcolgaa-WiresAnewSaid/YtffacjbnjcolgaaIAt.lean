/- Ints that stand in a block: as a part of a world. -/
import Derived.Test.YtffacjbnjcolgaaWAt
namespace Go.Proofs.Ytffacjbnjcolgaa
set_option linter.unusedSimpArgs false
set_option linter.unusedVariables false
set_option maxRecDepth 100000
open Go.RowKit
set_option maxHeartbeats 1000000

def iC (L : List Int) : List Value := L.map (Value.int .i64)
theorem iC_len (L : List Int) : (iC L).length = L.length := by simp [iC]
theorem iC_at (L : List Int) (j : Nat) (h : j < L.length) : (iC L)[j]? = some (.int .i64 L[j]) := by simp [iC, h]
theorem iC_one (L : List Int) : ∀ v ∈ iC L, v.oneCell' = true := fun v hv => by
  unfold iC at hv
  obtain ⟨x, _, rfl⟩ := List.mem_map.1 hv
  rfl
/-- Ints at a slice's value. -/
structure IAt (w : World) (v : Value) (L : List Int) : Prop where
  is : (v = .slice none 0 0 ∧ L = []) ∨ ∃ b cap, v = .slice (some ⟨b, 0, none⟩) L.length cap ∧ b < w.heap.size ∧ ∀ j (_ : j < L.length), w.cell? ⟨b, j, none⟩ = some (.int .i64 L[j])
theorem IAt.heap {w w' : World} {v : Value} {L : List Int} (h : IAt w v L) (e : ∀ k, v.ownBlock = some k → w'.heap[k]? = w.heap[k]?) : IAt w' v L := by
  rcases h.is with h1 | ⟨b, cap, rfl, hb, hc⟩
  · exact ⟨Or.inl h1⟩
  · exact ⟨Or.inr ⟨b, cap, rfl, heap_ltW (e b rfl) hb, fun j hj => (cell_of_heap (e b rfl) _).trans (hc j hj)⟩⟩
theorem IAt.slt {w : World} {v : Value} {L : List Int} (h : IAt w v L) : ∀ k, v.ownBlock = some k → k < w.heap.size := fun k hk => by
  rcases h.is with ⟨rfl, _⟩ | ⟨b, cap, rfl, hb, hc⟩
  · cases hk
  · cases hk; exact hb
theorem IAt.below {w w' : World} {v : Value} {L : List Int} (h : IAt w v L) (b : Below w.heap.size w w') : IAt w' v L := h.heap fun k hk => b.block k (h.slt k hk)
theorem IAt.slice {w : World} {v : Value} {L : List Int} (h : IAt w v L) : ∃ a c, v = .slice a L.length c := by
  rcases h.is with ⟨rfl, rfl⟩ | ⟨b, cap, rfl, _⟩
  · exact ⟨none, 0, rfl⟩
  · exact ⟨_, cap, rfl⟩
def intsP (v : Value) (L : List Int) : HP := ownP (fun k => v.ownBlock = some k) (fun w => IAt w v L)
theorem loc_ints (v : Value) (L : List Int) : Loc (fun k => v.ownBlock = some k) (fun w => IAt w v L) := fun _ _ h e => h.heap e
theorem Sat.ints {g w : World} {v : Value} {L : List Int} {R : HP} (h : Sat g w (intsP v L * R)) : IAt w v L := Sat.inv h
theorem Sat.ints_new {g w w' : World} {v : Value} {L : List Int} {R : HP} (h : Sat g w R) (b : Below w.heap.size w w') (hw : IAt w' v L) (hn : ∀ k, v.ownBlock = some k → w.heap.size ≤ k) : Sat g w' (intsP v L * R) :=
  h.new b hw (loc_ints v L) hn hw.slt
theorem own_iat {w : World} {base : Nat} {v : Value} {L : List Int} (h : w.ownsRow base 3 1 v L.length (iC L)) : IAt w v L ∧ ∀ k, v.ownBlock = some k → base ≤ k := by
  refine ⟨⟨?_⟩, fun k hk => (World.ownsRow.lt h k hk).1⟩
  rcases h.2 with ⟨h1, h2⟩ | ⟨gb, cap, cur, h1, _, hh, _⟩
  · exact Or.inl ⟨h1, List.length_eq_zero_iff.1 h2⟩
  · refine Or.inr ⟨gb, cap, h1, (World.ownsRow.lt h gb (by rw [h1]; rfl)).2, fun j hj => ?_⟩
    rw [h1] at h
    rw [World.ownsRow.cellAt h j (by omega)]
    exact iC_at L j hj
theorem own_heapW {w w' : World} {base e size n : Nat} {v : Value} {xs : List Value} (h : w.ownsRow base e size v n xs) (t : ∀ g, v.ownBlock = some g → w'.heap[g]? = w.heap[g]?) : w'.ownsRow base e size v n xs := by
  obtain ⟨h1, h2⟩ := h
  refine ⟨h1, ?_⟩
  rcases h2 with h2 | ⟨g, cap, cur, hv, hg, hh, r⟩
  · exact Or.inl h2
  · exact Or.inr ⟨g, cap, cur, hv, hg, (t g (by rw [hv]; rfl)).trans hh, r⟩
theorem lit_srcW (w : World) (f : Int) (t : TypeId) : Src (w.alloc (.cells #[.int .i64 f] t)) 1 (.slice (some ⟨w.heap.size, 0, none⟩) 1 1) 1 [.int .i64 f] :=
  ⟨rfl, Or.inr ⟨w.heap.size, 0, 1, rfl, fun j u hj => by
    cases j with
    | zero => simp at hj; subst hj; simp [go_sem]
    | succ j => simp at hj, fun _ => by simp⟩⟩
theorem infoI : (Try.prog.info? 3).map (fun i => (i.zero, i.size, i.bytes)) = some (some (.int .i64 0), 1, 8) := by kernel_rfl

end Go.Proofs.Ytffacjbnjcolgaa
