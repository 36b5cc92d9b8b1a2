/- A range over a map of blocks, in whatever order. -/
import Derived.Test.YtoiiblajgkdabaaMapB
import Derived.Test.YtoiiblajgkdabaaBase
namespace Go.Proofs.Ytoiiblajgkdabaa
set_option linter.unusedSimpArgs false
set_option linter.unusedVariables false
set_option maxRecDepth 100000
open Go.RowKit Go.MapKept
open Go.ChangeMaps (setBlock)
set_option maxHeartbeats 1000000

/-- An iterator at r over the map at b that holds just the blocks of L: those of D have come. -/
structure RngB (w : World) (b r : Nat) (L D : List Blk) : Prop where
  ex : ∃ es clock since seen c0, w.heap[b]? = some (.map es clock) ∧ KeysB es.toList L ∧ (∀ e ∈ es.toList, e.val = .bool true) ∧ (es.toList.map (·.born)).Nodup ∧ (∀ e ∈ es.toList, e.born < since) ∧
    w.heap[r]? = some (.mapIter (some b) since seen c0) ∧ since ≤ c0 ∧ since ≤ clock ∧ ∀ e ∈ es.toList, ∀ x, e.key = encB x → (seen.contains e.born = true ↔ x ∈ D)
  nodup : L.Nodup
  dnodup : D.Nodup
  sub : ∀ x ∈ D, x ∈ L
theorem RngB.ne {w : World} {b r : Nat} {L D : List Blk} (h : RngB w b r L D) : r ≠ b := fun e => by
  obtain ⟨es, clock, since, seen, c0, h1, _, _, _, _, h2, _⟩ := h.ex
  rw [e, h1] at h2; cases h2
theorem RngB.lt {w : World} {b r : Nat} {L D : List Blk} (h : RngB w b r L D) : b < w.heap.size ∧ r < w.heap.size := by
  obtain ⟨es, clock, since, seen, c0, h1, _, _, _, _, h2, _⟩ := h.ex
  exact ⟨heap_lt h1, heap_lt h2⟩
theorem RngB.heap {w w' : World} {b r : Nat} {L D : List Blk} (h : RngB w b r L D) (e1 : w'.heap[b]? = w.heap[b]?) (e2 : w'.heap[r]? = w.heap[r]?) : RngB w' b r L D := by
  obtain ⟨⟨es, clock, since, seen, c0, h1, a1, a2, a3, a4, h2, rest⟩, n1, n2, n3⟩ := h
  exact ⟨⟨es, clock, since, seen, c0, e1.trans h1, a1, a2, a3, a4, e2.trans h2, rest⟩, n1, n2, n3⟩
theorem run_rngB {w : World} {b : Nat} {L : List Blk} (h : MapB w b L) : ∃ w', (Instr.range 90 (.map (some b))).run Try.prog w = .ok (.pointer (some ⟨w.heap.size, 0, none⟩)) w' ∧ RngB w' b w.heap.size L [] ∧ Below w.heap.size w w' ∧ w'.heap.size = w.heap.size + 1 := by
  obtain ⟨⟨es, c, h1, h2, h3, h4, h5⟩, h6⟩ := h
  have hlt := heap_lt h1
  refine ⟨w.alloc (.mapIter (some b) c #[] c), run_range_map w _ _ _ b es c Try.underlying90 h1, ⟨⟨es, c, c, #[], c, ?_, h2, h3, h4, h5, heap_alloc_new _ _, Nat.le_refl _, Nat.le_refl _, fun e _ x _ => by simp⟩, h6, List.nodup_nil, by simp⟩, (Below.refl _ _).alloc (Nat.le_refl _) _, by simp⟩
  rw [heap_alloc_old _ _ hlt]; exact h1
theorem keyB_ex {es : List MapEntry} {L : List Blk} (h : KeysB es L) {e : MapEntry} (he : e ∈ es) : ∃ x ∈ L, e.key = encB x := by
  have : e.key ∈ es.map (·.key) := List.mem_map_of_mem he
  rw [h] at this
  obtain ⟨x, hx, hk⟩ := List.mem_map.1 this
  exact ⟨x, hx, hk.symm⟩
theorem keyB_of {es : List MapEntry} {L : List Blk} (h : KeysB es L) {x : Blk} (hx : x ∈ L) : ∃ e ∈ es, e.key = encB x := by
  have : encB x ∈ L.map encB := List.mem_map_of_mem hx
  rw [← h] at this
  obtain ⟨e, he, hk⟩ := List.mem_map.1 this
  exact ⟨e, he, hk⟩
theorem RngB.next {w : World} {b r : Nat} {L D : List Blk} (h : RngB w b r L D) (ty : TypeId) :
    (D.Perm L ∧ (Instr.next (.pointer (some ⟨r, 0, none⟩)) false ty).run Try.prog w = .ok (.tuple #[.bool false]) w) ∨
    ∃ x w', x ∈ L ∧ x ∉ D ∧ (Instr.next (.pointer (some ⟨r, 0, none⟩)) false ty).run Try.prog w = .ok (.tuple #[.bool true, encB x, .bool true]) w' ∧ RngB w' b r L (D ++ [x]) ∧ Touch (· = r) w w' ∧
      (Instr.entry (.pointer (some ⟨r, 0, none⟩))).run Try.prog w' = .ok (.tuple #[encB x, .bool true]) w' := by
  have hne := h.ne
  have hlt := h.lt
  obtain ⟨⟨es, clock, since, seen, c0, h1, a1, a2, a3, a4, h2, b1, b2, b3⟩, n1, n2, n3⟩ := h
  rcases run_next_at (P := Try.prog) w ty r b since c0 seen es clock h2 h1 a4 b1 with ⟨h0, hrun⟩ | ⟨e, he, w1, hw1, hrun⟩
  · refine Or.inl ⟨?_, hrun⟩
    have hall := all_seen es seen h0
    refine (List.perm_ext_iff_of_nodup n2 n1).2 fun x => ⟨n3 x, fun hx => ?_⟩
    obtain ⟨e, he, hk⟩ := keyB_of a1 hx
    exact (b3 e he x hk).1 (hall e he)
  · obtain ⟨hem, hes⟩ := mem_left he
    obtain ⟨x, hx, hk⟩ := keyB_ex a1 hem
    have hxD : x ∉ D := fun hd => by
      have := (b3 e hem x hk).2 hd
      rw [hes] at this; cases this
    have hh1 : ∀ k : Nat, w1.heap[k]? = w.heap[k]? := fun k => by rcases hw1 with rfl | rfl <;> rfl
    have hsz1 : w1.heap.size = w.heap.size := by rcases hw1 with rfl | rfl <;> rfl
    have hr' : (setBlock w1 r (.mapIter (some b) since (seen.push e.born) clock)).heap[r]? = some (.mapIter (some b) since (seen.push e.born) clock) := by
      simp [setBlock, hsz1, hlt.2]
    have hb' : (setBlock w1 r (.mapIter (some b) since (seen.push e.born) clock)).heap[b]? = some (.map es clock) := by
      simp [setBlock, hne]
      rw [hh1]; exact h1
    rw [hk, a2 e hem] at hrun
    have hen := run_entry_at (P := Try.prog) _ r b since seen es clock e hr' hb' hem a3
    rw [hk, a2 e hem] at hen
    refine Or.inr ⟨x, _, hx, hxD, hrun, ⟨⟨es, clock, since, seen.push e.born, clock, hb', a1, a2, a3, a4, hr', b2, b2, fun e' he' y hy => ?_⟩, n1, ?_, fun y hy => ?_⟩, ⟨?_, ?_, ?_, ?_, fun k hk hkr => ?_⟩, hen⟩
    · rw [contains_push, Bool.or_eq_true, b3 e' he' y hy, List.mem_append, List.mem_singleton]
      refine or_congr Iff.rfl ⟨fun hb => ?_, fun hy' => ?_⟩
      · have : e' = e := born_inj a3 he' hem (by simpa using hb)
        rw [this, hk] at hy
        exact (encB_inj hy).symm
      · subst hy'
        have hee : e' = e := by
          have h3 : (es.toList.map (·.key)).Nodup := by
            rw [a1]
            exact List.pairwise_map.2 (n1.imp fun h e => h (encB_inj e))
          obtain ⟨i, hi, hie⟩ := List.getElem_of_mem he'
          obtain ⟨j, hj, hje⟩ := List.getElem_of_mem hem
          have : i = j := by
            refine (List.getElem_inj (h₀ := by simpa using hi) (h₁ := by simpa using hj) h3).1 ?_
            rw [List.getElem_map, List.getElem_map, hie, hje, hy, hk]
          subst this
          rw [← hie, hje]
        simp [hee]
    · refine List.nodup_append.2 ⟨n2, by simp, fun y hy z hz => ?_⟩
      simp at hz
      exact fun e => hxD (by rw [← hz, ← e]; exact hy)
    · rcases List.mem_append.1 hy with hy | hy
      · exact n3 y hy
      · simp at hy; rw [hy]; exact hx
    · rcases hw1 with rfl | rfl <;> rfl
    · rcases hw1 with rfl | rfl <;> rfl
    · rcases hw1 with rfl | rfl <;> rfl
    · simp [setBlock, hsz1]
    · have hkr' : ¬ r = k := fun e => hkr e.symm
      simp [setBlock, hkr']
      rw [hh1]

end Go.Proofs.Ytoiiblajgkdabaa
