/- A map from ints to wires: what looking up, laying in and deleting do, at the map's own block. -/
import Derived.Test.YtffacjbnjcolgaaSep
import Derived.WideKeyRuns
import Derived.Maps.RangeRun
import Derived.Lib.Hide
namespace Go.Proofs.Ytffacjbnjcolgaa
set_option linter.unusedSimpArgs false
set_option linter.unusedVariables false
set_option maxRecDepth 100000
open Go.RowKit Go.MapKept
set_option maxHeartbeats 1000000

/-- A wire's value: from, to, the port's value. -/
abbrev WVal := Int × Int × Value
def encW (x : WVal) : Value := .agg #[.int .i64 x.1, .int .i64 x.2.1, x.2.2]
/-- The entries: a number and a wire. -/
abbrev WEnt := Int × WVal
def EntsW (es : List MapEntry) (L : List WEnt) : Prop := es.map (fun e => (e.key, e.val)) = L.map (fun x => (Value.int .i64 x.1, encW x.2))
theorem ientW_keys {es : List MapEntry} {L : List WEnt} (h : EntsW es L) : es.map (·.key) = L.map (fun x => Value.int .i64 x.1) := by
  have := congrArg (List.map Prod.fst) h
  simpa [Function.comp_def] using this
theorem iw_check (x : Int) (em : Bool) (w : World) : (Instr.checkKey em 10000 3 (.int .i64 x)).run Try.prog w = .ok () w := run_checkKey Try.underlying3 (by first | trivial | simp [IsKey]) em 9999
theorem iw_stays (x : Int) (w : World) : (Instr.keyThatStays (.int .i64 x) (.int .i64 x)).run Try.prog w = .ok (.int .i64 x) w := by
  have h : Instr.sameBits 10000 (.int .i64 x) (.int .i64 x) = true := by
    show Instr.sameBits (9999 + 1) (.int .i64 x) (.int .i64 x) = true
    simp [Instr.sameBits]
  simp [Instr.keyThatStays, h]
theorem iw_find (x : Int) : ∀ (es : List MapEntry) (L : List WEnt) (i : Nat), EntsW es L →
    Instr.findNow (.int .i64) (.int .i64 x) es i = some ((L.findIdx? (fun y => y.1 == x)).bind fun j => (es[j]?).map fun e => (i + j, e.val))
  | [], L, i, h => by
    obtain rfl : L = [] := by simpa [EntsW] using h.symm
    simp [Instr.findNow]
  | e :: es, [], i, h => by simp [EntsW] at h
  | e :: es, y :: L, i, h => by
    simp only [EntsW, List.map_cons, List.cons.injEq, Prod.mk.injEq] at h
    obtain ⟨⟨h1, _⟩, h2⟩ := h
    unfold Instr.findNow
    rw [h1]
    by_cases hxy : x = y.1
    · subst hxy
      simp [List.findIdx?_cons, Instr.sameNow]
    · have hyx : ¬ y.1 = x := fun e => hxy e.symm
      have ih := iw_find x es L (i + 1) h2
      have hb : (x == y.1) = false := by simp [hxy]
      simp [Instr.sameNow, ih, List.findIdx?_cons, hyx]
      simp only [hb]
      cases hf : L.findIdx? (fun y => y.1 == x) with
      | none => simp
      | some j => simp; congr 1; funext e; simp; omega
theorem iw_findKey (x : Int) (w : World) (es : List MapEntry) (L : List WEnt) (h : EntsW es L) :
    (Instr.findKey 3 (.int .i64 x) es).run Try.prog w = .ok ((L.findIdx? (fun y => y.1 == x)).bind fun j => (es[j]?).map fun e => (j, e.val)) w := by
  have := iw_find x es L 0 h
  simp only [Nat.zero_add] at this
  exact run_findKey Try.underlying3 this

/-- A map at b holds just the entries of L. -/
structure MapW (w : World) (b : Nat) (L : List WEnt) : Prop where
  ex : ∃ es clock, w.heap[b]? = some (.map es clock) ∧ EntsW es.toList L ∧ (es.toList.map (·.born)).Nodup ∧ ∀ e ∈ es.toList, e.born < clock
  nodup : (L.map (·.1)).Nodup
theorem MapW.heap {w w' : World} {b : Nat} {L : List WEnt} (h : MapW w b L) (e : w'.heap[b]? = w.heap[b]?) : MapW w' b L := by
  obtain ⟨⟨es, c, h1, h2⟩, h3⟩ := h
  exact ⟨⟨es, c, e.trans h1, h2⟩, h3⟩
theorem MapW.lt {w : World} {b : Nat} {L : List WEnt} (h : MapW w b L) : b < w.heap.size := by
  obtain ⟨⟨es, c, h1, _⟩, _⟩ := h
  exact heap_lt h1
theorem findW {L : List WEnt} {x : Int} : (∃ j, L.findIdx? (fun y => y.1 == x) = some j ∧ ∃ h : j < L.length, L[j].1 = x) ∨ (L.findIdx? (fun y => y.1 == x) = none ∧ ∀ y ∈ L, y.1 ≠ x) := by
  cases hf : L.findIdx? (fun y => y.1 == x) with
  | none =>
    right
    refine ⟨rfl, fun y hy e => ?_⟩
    rw [List.findIdx?_eq_none_iff] at hf
    have := hf y hy
    simp [e] at this
  | some j =>
    left
    rw [List.findIdx?_eq_some_iff_getElem] at hf
    obtain ⟨h1, h2, _⟩ := hf
    exact ⟨j, rfl, h1, by simpa using h2⟩
theorem entW_val {es : List MapEntry} {L : List WEnt} (h : EntsW es L) {j : Nat} (h1 : j < es.length) (h2 : j < L.length) : es[j].val = encW L[j].2 := by
  have := congrArg (fun l => l[j]?) h
  simp [h1, h2] at this
  exact this.2
theorem run_lookW {w : World} {b : Nat} {L : List WEnt} (h : MapW w b L) (x : Int) (j : Nat) (hj : j < L.length) (hx : L[j].1 = x) (ok : Bool) : (Instr.lookup 55 (.map (some b)) (.int .i64 x) ok).run Try.prog w = .ok (if ok then .tuple #[encW L[j].2, .bool true] else encW L[j].2) w := by
  obtain ⟨⟨es, c, h1, h2, h4, h5⟩, h6⟩ := h
  have hl : es.toList.length = L.length := by have := congrArg List.length h2; simpa using this
  rcases findW (L := L) (x := x) with ⟨i, hi, hlt, hxi⟩ | ⟨_, hn⟩
  · have hij : i = j := by
      have h7 : (L.map (·.1))[i]'(by simpa using hlt) = (L.map (·.1))[j]'(by simpa using hj) := by simp [hxi, hx]
      exact (List.getElem_inj h6).1 h7
    subst hij
    have hle : i < es.toList.length := by omega
    have hv := entW_val h2 hle hlt
    unfold Instr.lookup
    simp only [Sem.run_bind, run_underlying Try.underlying55, Result.andThen_ok, MapKept.run_getObj_map h1, Sem.run_pure, iw_check, iw_findKey x w es.toList L h2, hi]
    simp only [Option.bind_some, List.getElem?_eq_getElem hle, Option.map_some, Sem.run_pure, Result.andThen_ok, hv]
    cases ok <;> simp
  · exact absurd hx (hn _ (List.getElem_mem hj))
theorem run_lookW_none {w : World} {b : Nat} {L : List WEnt} (h : MapW w b L) (x : Int) (hx : ∀ y ∈ L, y.1 ≠ x) : (Instr.lookup 55 (.map (some b)) (.int .i64 x) true).run Try.prog w = .ok (.tuple #[.agg #[.int .i64 0, .int .i64 0, .nilIface], .bool false]) w := by
  obtain ⟨⟨es, c, h1, h2, h4, h5⟩, h6⟩ := h
  have hj : L.findIdx? (fun y => y.1 == x) = none := by
    rcases findW (L := L) (x := x) with ⟨j, _, hlt, he⟩ | ⟨hj, _⟩
    · exact absurd he (hx _ (List.getElem_mem hlt))
    · exact hj
  unfold Instr.lookup
  have hz := Try.zeroValue64
  simp only [Sem.run_bind, run_underlying Try.underlying55, Result.andThen_ok, MapKept.run_getObj_map h1, Sem.run_pure, iw_check, iw_findKey x w es.toList L h2, hj, Option.bind_none, hz, if_true]
theorem run_layW {w : World} {b : Nat} {L : List WEnt} (h : MapW w b L) (x : Int) (v : WVal) (hx : ∀ y ∈ L, y.1 ≠ x) : ∃ w', (Instr.mapUpdate 55 (.map (some b)) (.int .i64 x) (encW v)).run Try.prog w = .ok () w' ∧ MapW w' b (L ++ [(x, v)]) ∧ Touch (· = b) w w' := by
  obtain ⟨⟨es, c, h1, h2, h4, h5⟩, h6⟩ := h
  have hj : L.findIdx? (fun y => y.1 == x) = none := by
    rcases findW (L := L) (x := x) with ⟨j, _, hlt, he⟩ | ⟨hj, _⟩
    · exact absurd he (hx _ (List.getElem_mem hlt))
    · exact hj
  have hlt := heap_lt h1
  refine ⟨{ w with heap := w.heap.setIfInBounds b (.map (es.push ⟨.int .i64 x, encW v, c⟩) (c + 1)) }, ?_, ⟨⟨es.push ⟨.int .i64 x, encW v, c⟩, c + 1, by simp [hlt], ?_, ?_, ?_⟩, ?_⟩, ⟨rfl, rfl, rfl, by simp, fun k _ hk => ?_⟩⟩
  · unfold Instr.mapUpdate
    simp only [Sem.run_bind, run_underlying Try.underlying55, Result.andThen_ok, MapKept.run_getObj_map h1, Sem.run_pure, iw_check, iw_findKey x w es.toList L h2, hj, Option.bind_none, MapKept.run_setObj_map _ h1]
  · unfold EntsW at h2 ⊢
    simp [h2]
  · simp only [Array.toList_push, List.map_append, List.map_cons, List.map_nil]
    refine List.nodup_append.2 ⟨h4, by simp, fun y hy z hz => ?_⟩
    obtain ⟨e, he, rfl⟩ := List.mem_map.1 hy
    simp at hz
    have := h5 e he
    omega
  · intro e he
    simp at he
    rcases he with he | rfl
    · have := h5 e (by simpa using he); omega
    · simp
  · simp only [List.map_append, List.map_cons, List.map_nil]
    refine List.nodup_append.2 ⟨h6, by simp, fun y hy z hz => ?_⟩
    simp at hz
    obtain ⟨e, he, rfl⟩ := List.mem_map.1 hy
    exact fun e' => hx e he (by rw [← hz, ← e'])
  · have hk' : ¬ b = k := fun e => hk e.symm
    simp [Array.getElem?_setIfInBounds, hk']
theorem map_erase_idxW {α β : Type} (f : α → β) : ∀ (l : List α) (j : Nat), (l.eraseIdx j).map f = (l.map f).eraseIdx j
  | [], _ => by simp
  | _ :: _, 0 => by simp
  | _ :: l, j + 1 => by simp [map_erase_idxW f l j]
theorem run_delW {ty : TypeId} {w : World} {b : Nat} {L : List WEnt} (h : MapW w b L) (x : Int) (j : Nat) (hj : j < L.length) (hx : L[j].1 = x) : ∃ w', (Builtin.delete_ #[55, 3] ty #[.map (some b), .int .i64 x]).run Try.prog w = .ok (.tuple #[]) w' ∧ MapW w' b (L.eraseIdx j) ∧ Touch (· = b) w w' := by
  obtain ⟨⟨es, c, h1, h2, h4, h5⟩, h6⟩ := h
  have hl : es.toList.length = L.length := by have := congrArg List.length h2; simpa using this
  have hlt := heap_lt h1
  rcases findW (L := L) (x := x) with ⟨i, hi, hil, hxi⟩ | ⟨_, hn⟩
  · have hij : i = j := by
      have h7 : (L.map (·.1))[i]'(by simpa using hil) = (L.map (·.1))[j]'(by simpa using hj) := by simp [hxi, hx]
      exact (List.getElem_inj h6).1 h7
    subst hij
    have hle : i < es.toList.length := by omega
    have hes : (es.eraseIdxIfInBounds i).toList = es.toList.eraseIdx i := by simp
    refine ⟨{ w with heap := w.heap.setIfInBounds b (.map (es.eraseIdxIfInBounds i) c) }, ?_, ⟨⟨es.eraseIdxIfInBounds i, c, by simp [hlt], ?_, ?_, ?_⟩, ?_⟩, ⟨rfl, rfl, rfl, by simp, fun k _ hk => ?_⟩⟩
    · unfold Builtin.delete_
      simp only [List.getElem?_toArray, List.getElem?_cons_zero, List.getElem?_cons_succ]
      simp only [Sem.run_bind, run_underlying Try.underlying55, Result.andThen_ok, MapKept.run_getObj_map h1, Sem.run_pure, iw_check, iw_findKey x w es.toList L h2, hi, Option.bind_some, List.getElem?_eq_getElem hle, Option.map_some, MapKept.run_setObj_map _ h1]
    · unfold EntsW at h2 ⊢
      rw [hes, map_erase_idxW, h2, map_erase_idxW]
    · rw [hes]
      exact h4.sublist ((List.eraseIdx_sublist _ _).map _)
    · intro e hm
      rw [hes] at hm
      exact h5 e ((List.eraseIdx_sublist _ _).mem hm)
    · exact h6.sublist ((List.eraseIdx_sublist _ _).map _)
    · have hk' : ¬ b = k := fun e => hk e.symm
      simp [Array.getElem?_setIfInBounds, hk']
  · exact absurd hx (hn _ (List.getElem_mem hj))

end Go.Proofs.Ytffacjbnjcolgaa
