/- Opening a list of calls of law 15 that came in: its cells. -/
import Derived.Test.YtjacbcephokbbaaDoorOpen
import Derived.Test.YtjacbcephokbbaaDoorLaw15
namespace Go.Proofs.YtjacbcephokbbaaDoor
set_option linter.unusedSimpArgs false
set_option linter.unusedVariables false
set_option maxRecDepth 100000
open Go.ChangeShapes Go.WideShapes Go.ChangeAt Go.RowKit Go.Deep

variable {H : Type} {enc : TypeId × Value → H} {w : World} {base : Nat} {spare : Nat → Bool} {held : Bool}
theorem op4_open {n : Nat} {cs : List Value} {r : DataW H × List MemPlace} (h : DataW.trod enc Tryd.prog w base spare held n 30 cs = some r) :
    ∃ (x0 : Int) (x1 : Int) (x2 : Int) (x3 : Int), cs = [.int .i64 x0, .int .i64 x1, .int .i64 x2, .int .i64 x3] ∧ (IntKind.i64.min ≤ x0 ∧ x0 ≤ IntKind.i64.max) ∧ (IntKind.i64.min ≤ x1 ∧ x1 ≤ IntKind.i64.max) ∧ (IntKind.i64.min ≤ x2 ∧ x2 ≤ IntKind.i64.max) ∧ (IntKind.i64.min ≤ x3 ∧ x3 ≤ IntKind.i64.max) := by
  have c30 : Tryd.prog.cellsOf 30 = 4 := by kernel_rfl
  have c3 : Tryd.prog.cellsOf 3 = 1 := by kernel_rfl
  cases n with
  | zero => simp [DataW.trod] at h
  | succ n =>
    simp only [DataW.trod, Tryd.underlying30] at h
    split at h
    · rename_i hl
      rw [c30] at hl
      match cs, hl with
      | [c_0, c_1, c_2, c_3], _ =>
      simp [c3, List.mapM_cons, Option.bind_eq_some_iff] at h
      obtain ⟨_, _, e0, _, ⟨_, _, e1, _, ⟨_, _, e2, _, ⟨_, _, e3, _⟩, _⟩, _⟩, _⟩ := h
      obtain ⟨y0, rfl, b0⟩ := op_int Tryd.underlying3 e0
      obtain ⟨y1, rfl, b1⟩ := op_int Tryd.underlying3 e1
      obtain ⟨y2, rfl, b2⟩ := op_int Tryd.underlying3 e2
      obtain ⟨y3, rfl, b3⟩ := op_int Tryd.underlying3 e3
      exact ⟨y0, y1, y2, y3, rfl, b0, b1, b2, b3⟩
    · cases h

theorem ops4_open {W : World} {a : Option Addr} {len cap : Nat} {d : DataW H} {p : List MemPlace} (h : DataW.Trod enc Tryd.prog W 0 (fun _ => true) true 22 (.slice a len cap) d p) :
    ∃ L : Nat → Op4, Ops4 W a len L ∧ len ≤ 9223372036854775807 ∧ ∀ i, i < len → I64 (L i).d ∧ I64 (L i).p ∧ I64 (L i).f ∧ I64 (L i).m := by
  obtain ⟨fuel, hf⟩ := h
  obtain ⟨h1, h2, h3⟩ := row_open (P := fun cs => ∃ o : Op4, cs = [.int .i64 o.d, .int .i64 o.p, .int .i64 o.f, .int .i64 o.m] ∧ I64 o.d ∧ I64 o.p ∧ I64 o.f ∧ I64 o.m) Tryd.underlying22 (s := 4) (by kernel_rfl) (by omega) (fun n cs r ht => by
    obtain ⟨x0, x1, x2, x3, rfl, b0, b1, b2, b3⟩ := op4_open ht
    exact ⟨⟨x0, x1, x2, x3⟩, rfl, b0, b1, b2, b3⟩) hf
  refine (fun h : ∃ L : Nat → Op4, Ops4 W a len L ∧ ∀ i, i < len → I64 (L i).d ∧ I64 (L i).p ∧ I64 (L i).f ∧ I64 (L i).m => h.elim fun L hL => ⟨L, hL.1, by unfold maxLen at h2; omega, hL.2⟩) ?_
  rcases h3 with h0 | ⟨b, off, rfl, hb, hel⟩
  · exact ⟨fun _ => ⟨0, 0, 0, 0⟩, Or.inl h0, fun i hi => by omega⟩
  · have hall : ∀ i, ∃ o : Op4, i < len → (Op4At W b (off + i * 4) o ∧ I64 o.d ∧ I64 o.p ∧ I64 o.f ∧ I64 o.m) := by
      intro i
      by_cases hi : i < len
      · obtain ⟨cs, ⟨o, rfl, hx⟩, _, hc⟩ := hel i hi
        exact ⟨o, fun _ => ⟨⟨(hc 0 (by omega)).trans rfl, (hc 1 (by omega)).trans rfl, (hc 2 (by omega)).trans rfl, (hc 3 (by omega)).trans rfl⟩, hx⟩⟩
      · exact ⟨⟨0, 0, 0, 0⟩, fun h => absurd h hi⟩
    obtain ⟨L, hL⟩ := Classical.skolem.1 hall
    exact ⟨L, Or.inr ⟨b, off, rfl, fun i hi => (hL i hi).1⟩, fun i hi => (hL i hi).2⟩

end Go.Proofs.YtjacbcephokbbaaDoor
