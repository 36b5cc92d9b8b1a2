/- Lists of ints of the program's own: BinarySearch and Delete of package slices over them. -/
import Derived.Test.YtoiiblajgkdabaaSeqI
namespace Go.Proofs.Ytoiiblajgkdabaa
set_option linter.unusedSimpArgs false
set_option linter.unusedVariables false
set_option maxRecDepth 100000
open Go.RowKit Go.Lib
set_option maxHeartbeats 1000000

theorem iCells_cell {w : World} {g cap : Nat} {L : List Int} (h : RowI w 0 (.slice (some ⟨g, 0, none⟩) L.length cap) L) (j : Nat) (hj : j < L.length) : w.cell? ⟨g, 0 + j, none⟩ = some (.int .i64 (L.getD j 0)) := by
  rw [Nat.zero_add, World.ownsRow.cellAt h j (by omega), iCells_get L j hj]
theorem search_any (v : Value) (L : List Int) (x : Int) (w : World) (h : RowI w 0 v L) (hs : L.Pairwise (· ≤ ·)) (hL : L.length ≤ 1000000) :
    Calls Try.prog 75 #[v, .int .i64 x] w fun e w' => e = .returned (.tuple #[.int .i64 (L.countP (· < x) : Nat), .bool (L.contains x)]) ∧ ∃ q, w' = w.drewN q := by
  rcases h.2 with ⟨rfl, h0⟩ | ⟨g, cap, cur, rfl, -, hh, hnc, hcm, hcs, htk⟩
  · obtain rfl : L = [] := List.length_eq_zero_iff.1 h0
    exact (Try.slices_BinarySearch_int_empty none 0 x w).mono fun e w' ⟨he, hw⟩ => ⟨he, 0, hw⟩
  · have := Try.slices_BinarySearch_int g 0 L.length cap L x w (Nat.le_refl _) (by omega) (fun j hj => iCells_cell h j hj) (by rw [List.take_length]; exact hs)
    rw [List.take_length] at this
    exact this
theorem touch_drewN {S : Nat → Prop} {w : World} (q : Nat) : Touch S w (w.drewN q) := (Touch.refl _ _).drewN q
theorem del_any (v : Value) (L : List Int) (i : Nat) (w : World) (h : RowI w 0 v L) (hi : i < L.length) (hL : L.length ≤ 1000000) :
    Calls Try.prog 76 #[v, .int .i64 i, .int .i64 (i + 1)] w (SeqPost w v (L.eraseIdx i)) := by
  rcases h.2 with ⟨rfl, h0⟩ | ⟨g, cap, cur, rfl, -, hh, hnc, hcm, hcs, htk⟩
  · omega
  · have hcon := Try.slices_Delete_int_cells g 0 L.length cap i (i + 1) L w (Nat.le_refl _) hnc (by unfold maxLen at hcm; omega) (by omega) (by omega) (fun j hj => iCells_cell h j hj) (fun j _ => by rw [Nat.zero_add]; exact World.ownsRow.frozenAt h j)
    have hlen : (L.eraseIdx i).length = L.length - 1 := List.length_eraseIdx_of_lt hi
    refine hcon.mono fun e w' ⟨he, q, hw⟩ => ?_
    rw [List.take_length] at hw
    have hds : L.eraseIdx i = L.take i ++ L.drop (i + 1) := List.eraseIdx_eq_take_drop_succ L i
    obtain ⟨X, hX⟩ : ∃ X, X = (L.take i ++ L.drop (i + 1) ++ List.replicate (i + 1 - i) (0 : Int)).map (Value.int .i64) := ⟨_, rfl⟩
    rw [← hX] at hw
    have hXl : X.length = L.length := by rw [hX]; simp; omega
    have hhq : (w.drewN q).heap[g]? = some (.cells cur 3 (0, 0)) := hh
    obtain ⟨cz, k1, k2⟩ := (setCells_frame g X 0 (w.drewN q)).2.2.2.2.2 _ _ _ hhq
    rw [← hw] at k1
    rw [he]
    suffices hq : SeqPost w (.slice (some ⟨g, 0, none⟩) L.length cap) (L.eraseIdx i) (.returned (.slice (some ⟨g, 0, none⟩) (L.eraseIdx i).length cap)) w' by
      rw [hlen] at hq
      rw [show L.length - (i + 1 - i) = L.length - 1 by omega]; exact hq
    refine seq_done k1 (by omega) (by omega) hcm (fun j hj => ?_) ?_ (Or.inl rfl)
    · rw [hw, set_one hhq X (by omega), if_pos (by omega), hX, hds, Nat.sub_zero, List.map_append, List.getElem?_append_left (by rw [List.length_map, ← hds]; exact hj)]
      rfl
    · rw [hw]
      exact touch_setCells (touch_drewN q) g _ _ (Or.inl rfl)

/-! ### Plain: where an element stands in a rising list -/
theorem count_rise : ∀ (L : List Int) (x : Int), L.Pairwise (· < ·) → ∃ i, L.countP (· < x) = i ∧ i ≤ L.length ∧ (∀ y ∈ L.take i, y < x) ∧ (∀ y ∈ L.drop i, x ≤ y)
  | [], x, _ => ⟨0, rfl, Nat.le_refl _, by simp, by simp⟩
  | y :: L, x, h => by
    obtain ⟨h1, h2⟩ := List.pairwise_cons.1 h
    obtain ⟨i, hi, hl, ha, hb⟩ := count_rise L x h2
    by_cases hy : y < x
    · refine ⟨i + 1, by rw [List.countP_cons_of_pos (by simpa using hy), hi], by simp; omega, fun z hz => ?_, fun z hz => ?_⟩
      · rw [List.take_succ_cons, List.mem_cons] at hz
        rcases hz with rfl | hz
        · exact hy
        · exact ha z hz
      · rw [List.drop_succ_cons] at hz; exact hb z hz
    · have h0 : L.countP (· < x) = 0 := List.countP_eq_zero.2 fun z hz => by have := h1 z hz; simp; omega
      refine ⟨0, by rw [List.countP_cons_of_neg (by simpa using hy), h0], by simp, by simp, fun z hz => ?_⟩
      rw [List.drop_zero, List.mem_cons] at hz
      rcases hz with rfl | hz
      · omega
      · have := h1 z hz; omega
/-- A rising list with an element more. -/
def addL (L : List Int) (x : Int) : List Int := insL L (L.countP (· < x)) x
theorem mem_addL (L : List Int) (x y : Int) : y ∈ addL L x ↔ y = x ∨ y ∈ L := by
  unfold addL insL
  rw [List.mem_append, List.mem_cons]
  constructor
  · rintro (h | h | h)
    · exact Or.inr (List.mem_of_mem_take h)
    · exact Or.inl h
    · exact Or.inr (List.mem_of_mem_drop h)
  · rintro (h | h)
    · exact Or.inr (Or.inl h)
    · rw [← List.take_append_drop (L.countP (· < x)) L, List.mem_append] at h
      rcases h with h | h
      · exact Or.inl h
      · exact Or.inr (Or.inr h)
theorem rise_addL (L : List Int) (x : Int) (h : L.Pairwise (· < ·)) (hx : x ∉ L) : (addL L x).Pairwise (· < ·) := by
  obtain ⟨i, hi, hl, ha, hb⟩ := count_rise L x h
  unfold addL insL
  rw [hi]
  have hd : (L.drop i).Pairwise (· < ·) := h.sublist (List.drop_sublist i L)
  have ht : (L.take i).Pairwise (· < ·) := h.sublist (List.take_sublist i L)
  refine List.pairwise_append.2 ⟨ht, List.pairwise_cons.2 ⟨fun y hy => ?_, hd⟩, fun y hy z hz => ?_⟩
  · have h1 := hb y hy
    have h2 : y ≠ x := fun e => hx (e ▸ List.mem_of_mem_drop hy)
    omega
  · rw [List.mem_cons] at hz
    rcases hz with rfl | hz
    · exact ha y hy
    · have h1 := ha y hy
      have h2 := hb z hz
      omega
/-- A rising list without an element of it. -/
def delL (L : List Int) (x : Int) : List Int := L.eraseIdx (L.countP (· < x))
theorem at_count (L : List Int) (x : Int) (h : L.Pairwise (· < ·)) (hx : x ∈ L) : ∃ hi : L.countP (· < x) < L.length, L[L.countP (· < x)] = x := by
  obtain ⟨i, hi, hl, ha, hb⟩ := count_rise L x h
  have hm : x ∈ L.drop i := by
    have h1 := hx
    rw [← List.take_append_drop i L, List.mem_append] at h1
    rcases h1 with h1 | h1
    · have := ha x h1; omega
    · exact h1
  obtain ⟨j, hj, hje⟩ := List.getElem_of_mem hm
  rw [List.getElem_drop] at hje
  rw [List.length_drop] at hj
  have hil : i < L.length := by omega
  have hj0 : j = 0 := by
    by_cases h0 : j = 0
    · exact h0
    · exfalso
      have hlt : L[i] < L[i + j] := List.pairwise_iff_getElem.1 h i (i + j) hil (by omega) (by omega)
      have hge : x ≤ L[i] := hb L[i] (by rw [List.drop_eq_getElem_cons hil]; exact List.mem_cons_self)
      omega
  subst hj0
  simp only [Nat.add_zero] at hje
  rw [hi]
  exact ⟨hil, hje⟩
theorem mem_delL (L : List Int) (x y : Int) (h : L.Pairwise (· < ·)) (hx : x ∈ L) : y ∈ delL L x ↔ y ≠ x ∧ y ∈ L := by
  obtain ⟨hi, he⟩ := at_count L x h hx
  unfold delL
  rw [List.mem_eraseIdx_iff_getElem?]
  constructor
  · rintro ⟨j, hj, hy⟩
    obtain ⟨hjl, rfl⟩ := List.getElem?_eq_some_iff.1 hy
    refine ⟨fun e => hj ?_, List.getElem_mem hjl⟩
    rcases Nat.lt_trichotomy j (L.countP (· < x)) with h1 | h1 | h1
    · have := List.pairwise_iff_getElem.1 h j _ hjl hi h1; omega
    · exact h1
    · have := List.pairwise_iff_getElem.1 h _ j hi hjl h1; omega
  · rintro ⟨hne, hy⟩
    obtain ⟨j, hjl, rfl⟩ := List.getElem_of_mem hy
    exact ⟨j, fun e => hne (by subst e; exact he), List.getElem?_eq_getElem hjl⟩
theorem rise_delL (L : List Int) (x : Int) (h : L.Pairwise (· < ·)) : (delL L x).Pairwise (· < ·) := h.sublist (List.eraseIdx_sublist _ _)

end Go.Proofs.Ytoiiblajgkdabaa
