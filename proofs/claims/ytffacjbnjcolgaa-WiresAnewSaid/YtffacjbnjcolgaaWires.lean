/- What the functions of package wires return and write, by walks over their text. -/
import Derived.Test.YtffacjbnjcolgaaPorts
import Derived.Test.YtffacjbnjcolgaaSortedW
import Derived.Carry
namespace Go.Proofs.Ytffacjbnjcolgaa
set_option linter.unusedSimpArgs false
set_option linter.unusedVariables false
set_option maxRecDepth 100000
open Go.RowKit
set_option maxHeartbeats 4000000

structure Wr where
  id : Int
  fr : Int
  to_ : Int
  pt : PortS
def entW (p : Nat) (x : Wr) : WEnt := (x.id, x.fr, x.to_, portV x.pt p)
structure WiIn (w : World) (pw mb : Nat) (ps : List Nat) (E : List Wr) : Prop where
  c0 : w.cell? ⟨pw, 0, none⟩ = some (.map (some mb))
  mp : MapW w mb (List.zipWith entW ps E)
  lt : pw < w.heap.size
  len : ps.length = E.length
  ne : pw ≠ mb
  ids : ∀ x ∈ E, 0 ≤ x.id ∧ x.id < 16
def prtP (p : Nat) (x : Wr) : HP := portP p x.pt
def wiP (pw : Nat) (E : List Wr) : HP := exP fun x : Nat × List Nat => ownP (fun k => k = pw ∨ k = x.1) (fun w => WiIn w pw x.1 x.2 E) * starL (List.zipWith prtP x.2 E)
theorem loc_wi (pw mb : Nat) (ps : List Nat) (E : List Wr) : Loc (fun k => k = pw ∨ k = mb) (fun w => WiIn w pw mb ps E) := fun w w' h e =>
  ⟨(cell_of_heap (e pw (Or.inl rfl)) _).trans h.c0, h.mp.heap (e mb (Or.inr rfl)), heap_ltW (e pw (Or.inl rfl)) h.lt, h.len, h.ne, h.ids⟩
theorem WiIn.slt {w : World} {pw mb : Nat} {ps : List Nat} {E : List Wr} (h : WiIn w pw mb ps E) : ∀ k, (k = pw ∨ k = mb) → k < w.heap.size := fun k hk => by
  rcases hk with rfl | rfl
  · exact h.lt
  · exact h.mp.lt
theorem has_wi (pw : Nat) (E : List Wr) : Has (wiP pw E) pw := has_ex fun _ => has_left (has_own (Or.inl rfl))
/-- What lies in a world that has wires. -/
theorem Sat.wi {g w : World} {pw : Nat} {E : List Wr} {R : HP} (h : Sat g w (wiP pw E * R)) : ∃ mb ps, WiIn w pw mb ps E ∧ Sat g w (ownP (fun k => k = pw ∨ k = mb) (fun w => WiIn w pw mb ps E) * (starL (List.zipWith prtP ps E) * R)) := by
  obtain ⟨⟨mb, ps⟩, hs⟩ := h.ex
  have hs2 := hs.perm (star_assoc _ _ _)
  exact ⟨mb, ps, hs2.inv, hs2⟩
theorem Sat.wi' {g w : World} {pw : Nat} {E : List Wr} {R : HP} (mb : Nat) (ps : List Nat) (h : Sat g w (ownP (fun k => k = pw ∨ k = mb) (fun w => WiIn w pw mb ps E) * (starL (List.zipWith prtP ps E) * R))) : Sat g w (wiP pw E * R) :=
  Sat.ex' (P := fun x : Nat × List Nat => ownP (fun k => k = pw ∨ k = x.1) (fun w => WiIn w pw x.1 x.2 E) * starL (List.zipWith prtP x.2 E)) (mb, ps) (h.perm (star_assoc _ _ _).symm)

theorem s_wnew (g w : World) (R : HP) (h : Sat g w R) : Calls Try.prog 8 #[] w fun e w' => ∃ pw, e = .returned (.pointer (some ⟨pw, 0, none⟩)) ∧ Sat g w' (wiP pw [] * R) := by
  have hmm := @run_makeMap Try.prog
  go_enter Try.func8, Try.ntmps8
  go_wp2_with (fail)
  go_ret
  refine ⟨w.heap.size + 1, rfl, Sat.wi' w.heap.size [] ?_⟩
  have S := h.new (w' := (w.alloc (.map #[] 0)).alloc (.cells #[.map (some w.heap.size)] 57)) (S' := fun k => k = w.heap.size + 1 ∨ k = w.heap.size) (I' := fun w' => WiIn w' (w.heap.size + 1) w.heap.size [] []) (by repeat (first | with_reducible exact Below.refl _ _ | with_reducible assumption | with_reducible refine below_drewN ?_ _ | with_reducible refine Below.alloc ?_ (by simp <;> omega) _)) ⟨by simp [go_sem], ⟨⟨#[], 0, by rw [Below.heap_alloc _ _ _ (by simp)]; exact Array.getElem?_push_size (xs := w.heap), rfl, by simp, by simp⟩, by simp⟩, by simp, rfl, by omega, by simp⟩ (loc_wi _ _ _ _) (fun k hk => by omega) (fun k hk => by simp; omega)
  exact S.perm (by show _ = _ * (emp * R); rw [emp_star])

/-- Whether a wire has a number. -/
theorem id_or (E : List Wr) (id : Int) : (∃ j, ∃ h : j < E.length, E[j].id = id) ∨ ∀ y ∈ E, y.id ≠ id := by
  by_cases h : ∃ y ∈ E, y.id = id
  · obtain ⟨y, hy, e⟩ := h
    obtain ⟨j, hj, rfl⟩ := List.mem_iff_getElem.1 hy
    exact Or.inl ⟨j, hj, e⟩
  · exact Or.inr fun y hy e => h ⟨y, hy, e⟩
theorem zip_get {w : World} {pw mb : Nat} {ps : List Nat} {E : List Wr} (h : WiIn w pw mb ps E) (j : Nat) (hj : j < E.length) : ∃ hp : j < ps.length, ∃ h2 : j < (List.zipWith entW ps E).length, (List.zipWith entW ps E)[j] = entW ps[j] E[j] := by
  have := h.len
  exact ⟨by omega, by simp; omega, by simp⟩
theorem zip_ids {ps : List Nat} {E : List Wr} (hl : ps.length = E.length) (id : Int) (h : ∀ y ∈ E, y.id ≠ id) : ∀ y ∈ List.zipWith entW ps E, y.1 ≠ id := fun y hy => by
  obtain ⟨j, hj, rfl⟩ := List.mem_iff_getElem.1 hy
  simp at hj
  rw [List.getElem_zipWith]
  exact h _ (List.getElem_mem _)
theorem look_wi {w : World} {pw mb : Nat} {ps : List Nat} {E : List Wr} (h : WiIn w pw mb ps E) (j : Nat) (hj : j < E.length) : ∃ p t, ps[j]? = some p ∧ portV E[j].pt p = .iface t (.agg #[.pointer (some ⟨p, 0, none⟩)]) ∧
    ∀ ok, (Instr.lookup 55 (.map (some mb)) (.int .i64 E[j].id) ok).run Try.prog w = .ok (if ok then .tuple #[.agg #[.int .i64 E[j].fr, .int .i64 E[j].to_, .iface t (.agg #[.pointer (some ⟨p, 0, none⟩)])], .bool true] else .agg #[.int .i64 E[j].fr, .int .i64 E[j].to_, .iface t (.agg #[.pointer (some ⟨p, 0, none⟩)])]) w := by
  obtain ⟨hp, h2, e⟩ := zip_get h j hj
  obtain ⟨t, ht⟩ := portV_is E[j].pt ps[j]
  refine ⟨ps[j], t, List.getElem?_eq_getElem hp, ht, fun ok => ?_⟩
  have := run_lookW h.mp E[j].id j h2 (by rw [e]; rfl) ok
  rw [e] at this
  have e2 : encW (entW ps[j] E[j]).2 = .agg #[.int .i64 E[j].fr, .int .i64 E[j].to_, .iface t (.agg #[.pointer (some ⟨ps[j], 0, none⟩)])] := by
    unfold encW entW; simp only; rw [ht]
  rw [e2] at this
  exact this
theorem look_none {w : World} {pw mb : Nat} {ps : List Nat} {E : List Wr} (h : WiIn w pw mb ps E) (id : Int) (hn : ∀ y ∈ E, y.id ≠ id) :
    (Instr.lookup 55 (.map (some mb)) (.int .i64 id) true).run Try.prog w = .ok (.tuple #[.agg #[.int .i64 0, .int .i64 0, .nilIface], .bool false]) w := run_lookW_none h.mp id (zip_ids h.len id hn)
theorem zip_erase {α β γ : Type} (f : α → β → γ) : ∀ (a : List α) (b : List β) (j : Nat), a.length = b.length → List.zipWith f (a.eraseIdx j) (b.eraseIdx j) = (List.zipWith f a b).eraseIdx j
  | [], [], _, _ => by simp
  | _ :: _, _ :: _, 0, _ => by simp
  | _ :: a, _ :: b, j + 1, h => by simp [zip_erase f a b j (by simpa using h)]

/-! ### Unbind -/
theorem s_unbind (pw : Nat) (E : List Wr) (id : Int) (g w : World) (R : HP) (h : Sat g w (wiP pw E * R)) :
    Calls Try.prog 10 #[.pointer (some ⟨pw, 0, none⟩), .int .i64 id] w fun e w' =>
      ((∀ y ∈ E, y.id ≠ id) ∧ e = .returned (.int .i64 2) ∧ Sat g w' (wiP pw E * R)) ∨
      ∃ j, ∃ hj : j < E.length, E[j].id = id ∧ e = .returned (.int .i64 0) ∧ Sat g w' (wiP pw (E.eraseIdx j) * R) := by
  obtain ⟨mb, ps, hi, hs⟩ := h.wi
  have c0 := hi.c0
  rcases id_or E id with ⟨j, hj, rfl⟩ | hn
  · obtain ⟨p, t, hp, hpv, hlk⟩ := look_wi hi j hj
    have hl := hlk true
    simp only [if_true] at hl
    have hpl := hi.lt
    have hne : ¬ pw = w.heap.size := by omega
    have HI := Lib.hid hi
    clear hlk hi
    go_enter Try.func10, Try.ntmps10
    go_upto_region 4 with (fail)
    obtain ⟨w1, hw1⟩ : ∃ w1, w1 = w.alloc (.cells #[.int .i64 E[j].fr, .int .i64 E[j].to_, .iface t (.agg #[.pointer (some ⟨p, 0, none⟩)])] 64) := ⟨_, rfl⟩
    have hb : Below w.heap.size w w1 := by rw [hw1]; repeat (first | with_reducible exact Below.refl _ _ | with_reducible assumption | with_reducible refine below_drewN ?_ _ | with_reducible refine Below.alloc ?_ (by simp <;> omega) _)
    rw [← hw1]
    clear hw1 hl
    have hi1 : WiIn w1 pw mb ps E := loc_wi pw mb ps E w w1 HI.out (fun k hk => hb.block k (HI.out.slt k hk))
    have c1 := hi1.c0
    obtain ⟨hp', h2, e⟩ := zip_get hi1 j hj
    obtain ⟨w2, hdel, hm2, ht2⟩ := run_delW (ty := 0) hi1.mp E[j].id j h2 (by rw [e]; rfl)
    have HM := Lib.hid (And.intro hm2 (And.intro ht2 hi1))
    clear hm2 ht2 hi1 c0 e
    go_wp2_with (fail)
    go_ret
    refine Or.inr ⟨j, hj, rfl, rfl, Sat.wi' mb (ps.eraseIdx j) ?_⟩
    obtain ⟨hm2, ht2, hi1⟩ := HM.out
    have S1 := (hs.below hb).touch (ht2.mono fun k _ hk => Or.inr hk) (I' := fun w => WiIn w pw mb (ps.eraseIdx j) (E.eraseIdx j)) ⟨keepT ht2 hi1.lt hi1.ne hi1.c0, by rw [zip_erase _ _ _ _ hi1.len]; exact hm2, Nat.lt_of_lt_of_le hi1.lt ht2.size, by rw [List.length_eraseIdx_of_lt hp', List.length_eraseIdx_of_lt hj, hi1.len], hi1.ne, fun x hx => hi1.ids x ((List.eraseIdx_sublist _ _).mem hx)⟩ (loc_wi _ _ _ _) (fun k hk => Or.inl hk) (fun k hk => by
      rcases hk with rfl | rfl
      · exact Nat.lt_of_lt_of_le hi1.lt ht2.size
      · exact Nat.lt_of_lt_of_le hi1.mp.lt ht2.size)
    have hzl : j < (List.zipWith prtP ps E).length := by simp; omega
    rw [starL_pick _ j hzl] at S1
    refine ((S1.perm (show _ = (List.zipWith prtP ps E)[j] * (ownP (fun k => k = pw ∨ k = mb) (fun w => WiIn w pw mb (ps.eraseIdx j) (E.eraseIdx j)) * (starL ((List.zipWith prtP ps E).eraseIdx j) * R)) by ac_rfl)).right).perm ?_
    rw [zip_erase _ _ _ _ hi1.len]
  · have hl := look_none hi id hn
    have hne : ¬ pw = w.heap.size := by have := hi.lt; omega
    have HN := Lib.hid hn
    clear hi hn
    go_enter Try.func10, Try.ntmps10
    go_wp2_with (fail)
    go_ret
    exact Or.inl ⟨HN.out, rfl, h.alloc _⟩

end Go.Proofs.Ytffacjbnjcolgaa
