/- A map from blocks (two ints) to true: what looking up, laying in and deleting do, at the map's own block. -/
import Derived.Test.YtoiiblajgkdabaaSep
import Derived.WideKeyRuns
import Derived.Maps.RangeRun
import Derived.Lib.Hide
namespace Go.Proofs.Ytoiiblajgkdabaa
set_option linter.unusedSimpArgs false
set_option linter.unusedVariables false
set_option maxRecDepth 100000
open Go.RowKit Go.MapKept
set_option maxHeartbeats 1000000

abbrev Blk := Int × Int
def encB (x : Blk) : Value := .agg #[.int .i64 x.1, .int .i64 x.2]
theorem encB_inj {x y : Blk} (h : encB x = encB y) : x = y := by
  simp [encB] at h
  exact Prod.ext h.1 h.2
theorem blk_check' (x : Blk) (em : Bool) (n : Nat) (w : World) : (Instr.checkKey em (n + 1 + 1) 39 (encB x)).run Try.prog w = .ok () w := by
  have h1 := Try.underlying39
  have h2 := Try.underlying3
  have h3 := Try.sizeOf3
  have h4 := Try.isAgg3
  have c1 : ∀ (y : Int) (w : World), (Instr.checkKey em (n + 1) 3 (.int .i64 y)).run Try.prog w = .ok () w := fun y w => run_checkKey h2 (by first | trivial | simp [IsKey]) em n
  unfold Instr.checkKey
  simp only [encB, Sem.run_bind, run_underlying h1, Result.andThen]
  simp [go_sem, h2, h3, h4, c1, part, Result.andThen]
theorem blk_check (x : Blk) (em : Bool) (w : World) : (Instr.checkKey em 10000 39 (encB x)).run Try.prog w = .ok () w := blk_check' x em 9998 w
theorem blk_equal (x y : Blk) (w : World) : (Op.equal 39 (encB x) (encB y)).run Try.prog w = .ok (decide (x = y)) w := by
  have h1 := Try.underlying39
  have h2 := Try.underlying3
  have h3 := Try.sizeOf3
  have h4 := Try.isAgg3
  show (Op.equalIn (9999 + 1) 39 (encB x) (encB y)).run Try.prog w = _
  simp [encB, go_sem, h1, h2, h3, h4]
  by_cases e1 : x.1 = y.1
  · by_cases e2 : x.2 = y.2
    · rw [if_pos e1, if_pos e2, decide_eq_true (Prod.ext e1 e2)]
    · rw [if_pos e1, if_neg e2, decide_eq_false (fun e => e2 (by rw [e]))]
  · rw [if_neg e1, decide_eq_false (fun e => e1 (by rw [e]))]
theorem blk_stays (x : Blk) (w : World) : (Instr.keyThatStays (encB x) (encB x)).run Try.prog w = .ok (encB x) w := by
  have h : Instr.sameBits 10000 (encB x) (encB x) = true := by
    show Instr.sameBits (9998 + 1 + 1) (encB x) (encB x) = true
    simp [Instr.sameBits, encB]
  simp [Instr.keyThatStays, h]

/-- The entries of a map, as keys. -/
def KeysB (es : List MapEntry) (L : List Blk) : Prop := es.map (·.key) = L.map encB
theorem blk_find (x : Blk) (w : World) : ∀ (es : List MapEntry) (L : List Blk) (i : Nat), KeysB es L →
    (Instr.findAsking 39 (encB x) es i).run Try.prog w = .ok ((L.findIdx? (· == x)).bind fun j => (es[j]?).map fun e => (i + j, e.val)) w
  | [], L, i, h => by
    obtain rfl : L = [] := by simpa [KeysB] using h.symm
    simp [Instr.findAsking]
  | e :: es, [], i, h => by simp [KeysB] at h
  | e :: es, y :: L, i, h => by
    simp only [KeysB, List.map_cons, List.cons.injEq] at h
    obtain ⟨h1, h2⟩ := h
    unfold Instr.findAsking
    rw [h1]
    simp only [Sem.run_bind, blk_equal, Result.andThen_ok]
    by_cases hxy : x = y
    · subst hxy
      simp [List.findIdx?_cons]
    · have hyx : ¬ y = x := fun e => hxy e.symm
      have ih := blk_find x w es L (i + 1) h2
      simp only [decide_eq_false hxy, Bool.false_eq_true, if_false, ih, List.findIdx?_cons, beq_iff_eq, hyx]
      cases hf : L.findIdx? (· == x) with
      | none => simp
      | some j => simp; congr 1; funext e; simp; omega
theorem blk_findKey (x : Blk) (w : World) (es : List MapEntry) (L : List Blk) (h : KeysB es L) :
    (Instr.findKey 39 (encB x) es).run Try.prog w = .ok ((L.findIdx? (· == x)).bind fun j => (es[j]?).map fun e => (j, e.val)) w := by
  rw [run_findKey_eq w (by rw [Try.underlying39]), blk_find x w es L 0 h]
  simp

/-- A map at b holds just the blocks of L. -/
structure MapB (w : World) (b : Nat) (L : List Blk) : Prop where
  ex : ∃ es clock, w.heap[b]? = some (.map es clock) ∧ KeysB es.toList L ∧ (∀ e ∈ es.toList, e.val = .bool true) ∧ (es.toList.map (·.born)).Nodup ∧ ∀ e ∈ es.toList, e.born < clock
  nodup : L.Nodup

theorem MapB.heap {w w' : World} {b : Nat} {L : List Blk} (h : MapB w b L) (e : w'.heap[b]? = w.heap[b]?) : MapB w' b L := by
  obtain ⟨⟨es, c, h1, h2⟩, h3⟩ := h
  exact ⟨⟨es, c, e.trans h1, h2⟩, h3⟩
theorem MapB.lt {w : World} {b : Nat} {L : List Blk} (h : MapB w b L) : b < w.heap.size := by
  obtain ⟨⟨es, c, h1, _⟩, _⟩ := h
  exact heap_lt h1
theorem findIdx_mem {L : List Blk} {x : Blk} : (∃ j, L.findIdx? (· == x) = some j ∧ ∃ h : j < L.length, L[j] = x) ∨ (L.findIdx? (· == x) = none ∧ x ∉ L) := by
  cases hf : L.findIdx? (· == x) with
  | none =>
    right
    refine ⟨rfl, fun hx => ?_⟩
    rw [List.findIdx?_eq_none_iff] at hf
    have := hf x hx
    simp at this
  | some j =>
    left
    rw [List.findIdx?_eq_some_iff_getElem] at hf
    obtain ⟨h1, h2, _⟩ := hf
    exact ⟨j, rfl, h1, by simpa using h2⟩

theorem run_lookB {w : World} {b : Nat} {L : List Blk} (h : MapB w b L) (x : Blk) : (Instr.lookup 90 (.map (some b)) (encB x) false).run Try.prog w = .ok (.bool (decide (x ∈ L))) w := by
  obtain ⟨⟨es, c, h1, h2, h3, h4, h5⟩, h6⟩ := h
  have hl : es.toList.length = L.length := by have := congrArg List.length h2; simpa using this
  unfold Instr.lookup
  simp only [Sem.run_bind, run_underlying Try.underlying90, Result.andThen_ok, MapKept.run_getObj_map h1, Sem.run_pure, blk_check, blk_findKey x w es.toList L h2]
  rcases findIdx_mem (L := L) (x := x) with ⟨j, hj, hlt, hx⟩ | ⟨hj, hx⟩
  · have hle : j < es.toList.length := by omega
    have hv := h3 _ (List.getElem_mem hle)
    rw [hj]
    simp only [Option.bind_some, List.getElem?_eq_getElem hle, Option.map_some, Sem.run_pure, Result.andThen_ok, hv, Bool.false_eq_true, if_false]
    rw [decide_eq_true (hx ▸ List.getElem_mem hlt)]
    simp
  · rw [hj]
    have hz := Try.zeroValue4
    simp only [Option.bind_none, Sem.run_bind, hz, Result.andThen_ok, Sem.run_pure, Bool.false_eq_true, if_false]
    rw [decide_eq_false hx]
theorem run_layB {w : World} {b : Nat} {L : List Blk} (h : MapB w b L) (x : Blk) (hx : x ∉ L) : ∃ w', (Instr.mapUpdate 90 (.map (some b)) (encB x) (.bool true)).run Try.prog w = .ok () w' ∧ MapB w' b (L ++ [x]) ∧ Touch (· = b) w w' := by
  obtain ⟨⟨es, c, h1, h2, h3, h4, h5⟩, h6⟩ := h
  have hj : L.findIdx? (· == x) = none := by
    rcases findIdx_mem (L := L) (x := x) with ⟨j, _, hlt, he⟩ | ⟨hj, _⟩
    · exact absurd (he ▸ List.getElem_mem hlt) hx
    · exact hj
  have hlt := heap_lt h1
  refine ⟨{ w with heap := w.heap.setIfInBounds b (.map (es.push ⟨encB x, .bool true, c⟩) (c + 1)) }, ?_, ⟨⟨es.push ⟨encB x, .bool true, c⟩, c + 1, by simp [hlt], ?_, ?_, ?_, ?_⟩, ?_⟩, ⟨rfl, rfl, rfl, by simp, fun k _ hk => ?_⟩⟩
  · unfold Instr.mapUpdate
    simp only [Sem.run_bind, run_underlying Try.underlying90, Result.andThen_ok, MapKept.run_getObj_map h1, Sem.run_pure, blk_check, blk_findKey x w es.toList L h2, hj, Option.bind_none, MapKept.run_setObj_map _ h1]
  · have h2' : es.toList.map (·.key) = L.map encB := h2
    simp [KeysB, ← h2']
  · intro e he
    simp at he
    rcases he with he | rfl
    · exact h3 e (by simpa using he)
    · rfl
  · simp only [Array.toList_push, List.map_append, List.map_cons, List.map_nil]
    refine List.nodup_append.2 ⟨h4, by simp, fun y hy z hz => ?_⟩
    obtain ⟨e, he, rfl⟩ := List.mem_map.1 hy
    simp at hz
    have := h5 e he
    omega
  · intro e he
    simp at he
    rcases he with he | rfl
    · have := h5 e (by simpa using he); omega
    · simp
  · refine List.nodup_append.2 ⟨h6, by simp, fun y hy z hz => ?_⟩
    simp at hz
    exact fun e => hx (by rw [← hz, ← e]; exact hy)
  · have hk' : ¬ b = k := fun e => hk e.symm
    simp [Array.getElem?_setIfInBounds, hk']
theorem map_erase_idx {α β : Type} (f : α → β) : ∀ (l : List α) (j : Nat), (l.eraseIdx j).map f = (l.map f).eraseIdx j
  | [], _ => by simp
  | _ :: _, 0 => by simp
  | _ :: l, j + 1 => by simp [map_erase_idx f l j]
theorem run_delB {ty : TypeId} {w : World} {b : Nat} {L : List Blk} (h : MapB w b L) (x : Blk) (hx : x ∈ L) : ∃ w', (Builtin.delete_ #[90, 39] ty #[.map (some b), encB x]).run Try.prog w = .ok (.tuple #[]) w' ∧ MapB w' b (L.erase x) ∧ Touch (· = b) w w' := by
  obtain ⟨⟨es, c, h1, h2, h3, h4, h5⟩, h6⟩ := h
  have hl : es.toList.length = L.length := by have := congrArg List.length h2; simpa using this
  have hlt := heap_lt h1
  rcases findIdx_mem (L := L) (x := x) with ⟨j, hj, hjl, he⟩ | ⟨_, hn⟩
  · have hle : j < es.toList.length := by omega
    have hje : j < es.size := by simpa using hle
    have herase : L.erase x = L.eraseIdx j := by
      rw [List.erase_eq_eraseIdx]
      have : L.idxOf? x = some j := hj
      rw [this]
    have hes : (es.eraseIdxIfInBounds j).toList = es.toList.eraseIdx j := by simp
    refine ⟨{ w with heap := w.heap.setIfInBounds b (.map (es.eraseIdxIfInBounds j) c) }, ?_, ⟨⟨es.eraseIdxIfInBounds j, c, by simp [hlt], ?_, ?_, ?_, ?_⟩, ?_⟩, ⟨rfl, rfl, rfl, by simp, fun k _ hk => ?_⟩⟩
    · unfold Builtin.delete_
      simp only [List.getElem?_toArray, List.getElem?_cons_zero, List.getElem?_cons_succ]
      simp only [Sem.run_bind, run_underlying Try.underlying90, Result.andThen_ok, MapKept.run_getObj_map h1, Sem.run_pure, blk_check, blk_findKey x w es.toList L h2, hj, Option.bind_some, List.getElem?_eq_getElem hle, Option.map_some, MapKept.run_setObj_map _ h1]
    · have h2' : es.toList.map (·.key) = L.map encB := h2
      unfold KeysB
      rw [hes, herase, map_erase_idx, h2', map_erase_idx]
    · intro e hm
      rw [hes] at hm
      exact h3 e ((List.eraseIdx_sublist _ _).mem hm)
    · rw [hes]
      exact h4.sublist ((List.eraseIdx_sublist _ _).map _)
    · intro e hm
      rw [hes] at hm
      exact h5 e ((List.eraseIdx_sublist _ _).mem hm)
    · exact h6.erase x
    · have hk' : ¬ b = k := fun e => hk e.symm
      simp [Array.getElem?_setIfInBounds, hk']
  · exact absurd hx hn

end Go.Proofs.Ytoiiblajgkdabaa
