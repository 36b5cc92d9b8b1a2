/- Opening a list of calls of layer 11 that came in: its cells. -/
import Derived.Test.YteehghjdifbjbaaOpen
import Derived.Test.YteehghjdifbjbaaLawMmuPlays
namespace Go.Proofs.Yteehghjdifbjbaa
set_option linter.unusedSimpArgs false
set_option linter.unusedVariables false
set_option maxRecDepth 100000
open Go.ChangeShapes Go.WideShapes Go.ChangeAt Go.RowKit Go.Deep

variable {H : Type} {enc : TypeId × Value → H} {w : World} {base : Nat} {spare : Nat → Bool} {held : Bool}
theorem entry11_open {n : Nat} {cs : List Value} {r : DataW H × List MemPlace} (h : DataW.trod enc Try.prog w base spare held n 34 cs = some r) :
    ∃ (x0 : Bool) (x1 : Bool) (x2 : Bool) (x3 : Int), cs = [.bool x0, .bool x1, .bool x2, .int .i64 x3] ∧ (IntKind.i64.min ≤ x3 ∧ x3 ≤ IntKind.i64.max) := by
  have c34 : Try.prog.cellsOf 34 = 4 := by kernel_rfl
  have c4 : Try.prog.cellsOf 4 = 1 := by kernel_rfl
  have c3 : Try.prog.cellsOf 3 = 1 := by kernel_rfl
  cases n with
  | zero => simp [DataW.trod] at h
  | succ n =>
    simp only [DataW.trod, Try.underlying34] at h
    split at h
    · rename_i hl
      rw [c34] at hl
      match cs, hl with
      | [c_0, c_1, c_2, c_3], _ =>
      simp [c4, c3, List.mapM_cons, Option.bind_eq_some_iff] at h
      obtain ⟨_, _, e0, _, ⟨_, _, e1, _, ⟨_, _, e2, _, ⟨_, _, e3, _⟩, _⟩, _⟩, _⟩ := h
      obtain ⟨y0, rfl⟩ := op_bool Try.underlying4 e0
      obtain ⟨y1, rfl⟩ := op_bool Try.underlying4 e1
      obtain ⟨y2, rfl⟩ := op_bool Try.underlying4 e2
      obtain ⟨y3, rfl, b3⟩ := op_int Try.underlying3 e3
      exact ⟨y0, y1, y2, y3, rfl, b3⟩
    · cases h

theorem op11_open {n : Nat} {cs : List Value} {r : DataW H × List MemPlace} (h : DataW.trod enc Try.prog w base spare held n 51 cs = some r) :
    ∃ (x0 : Int) (x1 : Int) (x2 : Int) (x3 : Int) (x4 : Int) (x5 : Int) (x6 : Bool) (x7 : Bool) (x8 : Bool) (x9 : Int), cs = [.int .i64 x0, .int .i64 x1, .int .i64 x2, .int .i64 x3, .int .i64 x4, .int .u64 x5, .bool x6, .bool x7, .bool x8, .int .i64 x9] ∧ (IntKind.i64.min ≤ x0 ∧ x0 ≤ IntKind.i64.max) ∧ (IntKind.i64.min ≤ x1 ∧ x1 ≤ IntKind.i64.max) ∧ (IntKind.i64.min ≤ x2 ∧ x2 ≤ IntKind.i64.max) ∧ (IntKind.i64.min ≤ x3 ∧ x3 ≤ IntKind.i64.max) ∧ (IntKind.i64.min ≤ x4 ∧ x4 ≤ IntKind.i64.max) ∧ (IntKind.u64.min ≤ x5 ∧ x5 ≤ IntKind.u64.max) ∧ (IntKind.i64.min ≤ x9 ∧ x9 ≤ IntKind.i64.max) := by
  have c51 : Try.prog.cellsOf 51 = 10 := by kernel_rfl
  have c3 : Try.prog.cellsOf 3 = 1 := by kernel_rfl
  have c49 : Try.prog.cellsOf 49 = 1 := by kernel_rfl
  have c34 : Try.prog.cellsOf 34 = 4 := by kernel_rfl
  cases n with
  | zero => simp [DataW.trod] at h
  | succ n =>
    simp only [DataW.trod, Try.underlying51] at h
    split at h
    · rename_i hl
      rw [c51] at hl
      match cs, hl with
      | [c_0, c_1, c_2, c_3, c_4, c_5, c_6, c_7, c_8, c_9], _ =>
      simp [c34, c3, c49, List.mapM_cons, Option.bind_eq_some_iff] at h
      obtain ⟨_, _, e0, _, ⟨_, _, e1, _, ⟨_, _, e2, _, ⟨_, _, e3, _, ⟨_, _, e4, _, ⟨_, _, e5, _, ⟨_, _, e6, _⟩, _⟩, _⟩, _⟩, _⟩, _⟩, _⟩ := h
      obtain ⟨y0, rfl, b0⟩ := op_int Try.underlying3 e0
      obtain ⟨y1, rfl, b1⟩ := op_int Try.underlying3 e1
      obtain ⟨y2, rfl, b2⟩ := op_int Try.underlying3 e2
      obtain ⟨y3, rfl, b3⟩ := op_int Try.underlying3 e3
      obtain ⟨y4, rfl, b4⟩ := op_int Try.underlying3 e4
      obtain ⟨y5, rfl, b5⟩ := op_int Try.underlying49 e5
      obtain ⟨y6, y7, y8, y9, g6, b9⟩ := entry11_open e6
      simp only [List.cons.injEq, and_true] at g6
      obtain ⟨rfl, rfl, rfl, rfl⟩ := g6
      exact ⟨y0, y1, y2, y3, y4, y5, y6, y7, y8, y9, rfl, b0, b1, b2, b3, b4, b5, b9⟩
    · cases h

theorem ops11_open {W : World} {a : Option Addr} {len cap : Nat} {d : DataW H} {p : List MemPlace} (h : DataW.Trod enc Try.prog W 0 (fun _ => true) true 22 (.slice a len cap) d p) :
    ∃ L : Nat → Op11, Ops11 W a len L ∧ len ≤ 9223372036854775807 ∧ ∀ i, i < len → 0 ≤ (L i).x ∧ (L i).x < 18446744073709551616 := by
  obtain ⟨fuel, hf⟩ := h
  obtain ⟨h1, h2, h3⟩ := row_open (P := fun cs => ∃ o : Op11, cs = [.int .i64 o.d, .int .i64 o.addr, .int .i64 o.at_, .int .i64 o.fr, .int .i64 o.pl, .int .u64 o.x, .bool o.ev, .bool o.ew, .bool o.et, .int .i64 o.ef] ∧ 0 ≤ o.x ∧ o.x < 18446744073709551616) Try.underlying22 (s := 10) (by kernel_rfl) (by omega) (fun n cs r ht => by
    obtain ⟨x0, x1, x2, x3, x4, x5, x6, x7, x8, x9, rfl, b0, b1, b2, b3, b4, b5, b9⟩ := op11_open ht
    have h5 : 0 ≤ x5 ∧ x5 ≤ 18446744073709551615 := b5
    exact ⟨⟨x0, x1, x2, x3, x4, x5, x6, x7, x8, x9⟩, rfl, h5.1, Int.lt_of_le_of_lt h5.2 (by decide)⟩) hf
  refine (fun h : ∃ L : Nat → Op11, Ops11 W a len L ∧ ∀ i, i < len → 0 ≤ (L i).x ∧ (L i).x < 18446744073709551616 => h.elim fun L hL => ⟨L, hL.1, by unfold maxLen at h2; omega, hL.2⟩) ?_
  rcases h3 with h0 | ⟨b, off, rfl, hb, hel⟩
  · exact ⟨fun _ => ⟨0, 0, 0, 0, 0, 0, false, false, false, 0⟩, Or.inl h0, fun i hi => by omega⟩
  · have hall : ∀ i, ∃ o : Op11, i < len → (OpAt W b (off + i * 10) o ∧ 0 ≤ o.x ∧ o.x < 18446744073709551616) := by
      intro i
      by_cases hi : i < len
      · obtain ⟨cs, ⟨o, rfl, hx⟩, _, hc⟩ := hel i hi
        exact ⟨o, fun _ => ⟨⟨by simpa using hc 0 (by omega), by simpa using hc 1 (by omega), by simpa using hc 2 (by omega), by simpa using hc 3 (by omega), by simpa using hc 4 (by omega), by simpa using hc 5 (by omega), by simpa using hc 6 (by omega), by simpa using hc 7 (by omega), by simpa using hc 8 (by omega), by simpa using hc 9 (by omega)⟩, hx⟩⟩
      · exact ⟨⟨0, 0, 0, 0, 0, 0, false, false, false, 0⟩, fun h => absurd h hi⟩
    obtain ⟨L, hL⟩ := Classical.skolem.1 hall
    exact ⟨L, Or.inr ⟨b, off, rfl, hb, fun i hi => (hL i hi).1⟩, fun i hi => (hL i hi).2⟩

end Go.Proofs.Yteehghjdifbjbaa
