/- Opening a list of windows that came in: its cells. -/
import Derived.Test.YtjacbcephokbbaaOpen
import Derived.Test.YtjacbcephokbbaaLaw16
namespace Go.Proofs.Ytjacbcephokbbaa
set_option linter.unusedSimpArgs false
set_option linter.unusedVariables false
set_option maxRecDepth 100000
open Go.ChangeShapes Go.WideShapes Go.ChangeAt Go.RowKit Go.Deep

variable {H : Type} {enc : TypeId × Value → H} {w : World} {base : Nat} {spare : Nat → Bool} {held : Bool}
theorem slot_open {n : Nat} {cs : List Value} {r : DataW H × List MemPlace} (h : DataW.trod enc Try.prog w base spare held n 37 cs = some r) :
    ∃ (x0 : Int) (x1 : Int) (x2 : Int), cs = [.int .i64 x0, .int .i64 x1, .int .i64 x2] ∧ (IntKind.i64.min ≤ x0 ∧ x0 ≤ IntKind.i64.max) ∧ (IntKind.i64.min ≤ x1 ∧ x1 ≤ IntKind.i64.max) ∧ (IntKind.i64.min ≤ x2 ∧ x2 ≤ IntKind.i64.max) := by
  have c37 : Try.prog.cellsOf 37 = 3 := by kernel_rfl
  have c3 : Try.prog.cellsOf 3 = 1 := by kernel_rfl
  cases n with
  | zero => simp [DataW.trod] at h
  | succ n =>
    simp only [DataW.trod, Try.underlying37] at h
    split at h
    · rename_i hl
      rw [c37] at hl
      match cs, hl with
      | [c_0, c_1, c_2], _ =>
      simp [c3, List.mapM_cons, Option.bind_eq_some_iff] at h
      obtain ⟨_, _, e0, _, ⟨_, _, e1, _, ⟨_, _, e2, _⟩, _⟩, _⟩ := h
      obtain ⟨y0, rfl, b0⟩ := op_int Try.underlying3 e0
      obtain ⟨y1, rfl, b1⟩ := op_int Try.underlying3 e1
      obtain ⟨y2, rfl, b2⟩ := op_int Try.underlying3 e2
      exact ⟨y0, y1, y2, rfl, b0, b1, b2⟩
    · cases h

/-- A list of windows that came in. -/
theorem slots_open {fuel : Nat} {W : World} {a : Option Addr} {len cap : Nat} {r : DataW H × List MemPlace} (h : DataW.trod enc Try.prog W base spare held fuel 22 [.slice a len cap] = some r) :
    ∃ L : List Win, L.length = len ∧ SlotsAt W a L ∧ len ≤ 9223372036854775807 := by
  obtain ⟨h1, h2, h3⟩ := row_open (P := fun cs => ∃ x : Win, cs = [.int .i64 x.p, .int .i64 x.f, .int .i64 x.l]) Try.underlying22 (s := 3) (by kernel_rfl) (by omega) (fun n cs r ht => by
    obtain ⟨x0, x1, x2, rfl, b0, b1, b2⟩ := slot_open ht
    exact ⟨⟨x0, x1, x2⟩, rfl⟩) h
  have hm : len ≤ 9223372036854775807 := by unfold maxLen at h2; omega
  rcases h3 with h0 | ⟨b, off, rfl, hb, hel⟩
  · exact ⟨List.replicate len ⟨0, 0, 0⟩, by simp, Or.inl (by simp [h0]), hm⟩
  · have hall : ∀ i, ∃ o : Win, i < len → (W.cell? ⟨b, off + i * 3, none⟩ = some (.int .i64 o.p) ∧ W.cell? ⟨b, off + i * 3 + 1, none⟩ = some (.int .i64 o.f) ∧ W.cell? ⟨b, off + i * 3 + 2, none⟩ = some (.int .i64 o.l)) := by
      intro i
      by_cases hi : i < len
      · obtain ⟨cs, ⟨o, rfl⟩, _, hc⟩ := hel i hi
        exact ⟨o, fun _ => ⟨(hc 0 (by omega)).trans rfl, (hc 1 (by omega)).trans rfl, (hc 2 (by omega)).trans rfl⟩⟩
      · exact ⟨⟨0, 0, 0⟩, fun h => absurd h hi⟩
    obtain ⟨L, hL⟩ := Classical.skolem.1 hall
    refine ⟨(List.range len).map L, by simp, Or.inr ⟨b, off, rfl, fun i hi => ?_⟩, hm⟩
    have hi' : i < len := by simpa using hi
    simpa using hL i hi'
theorem slotsT_open {W : World} {a : Option Addr} {len cap : Nat} {d : DataW H} {p : List MemPlace} (h : DataW.Trod enc Try.prog W 0 (fun _ => true) true 22 (.slice a len cap) d p) :
    ∃ L : List Win, L.length = len ∧ SlotsAt W a L ∧ len ≤ 9223372036854775807 := by
  obtain ⟨fuel, hf⟩ := h
  exact slots_open hf

end Go.Proofs.Ytjacbcephokbbaa
