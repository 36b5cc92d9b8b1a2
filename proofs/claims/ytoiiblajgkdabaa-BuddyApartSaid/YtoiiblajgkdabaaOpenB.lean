/- Opening a list of calls of law 04 that came in: its cells. -/
import Derived.Test.YtoiiblajgkdabaaOpen
import Derived.Test.YtoiiblajgkdabaaLawB
namespace Go.Proofs.Ytoiiblajgkdabaa
set_option linter.unusedSimpArgs false
set_option linter.unusedVariables false
set_option maxRecDepth 100000
open Go.ChangeShapes Go.WideShapes Go.ChangeAt Go.RowKit Go.Deep

variable {H : Type} {enc : TypeId × Value → H} {w : World} {base : Nat} {spare : Nat → Bool} {held : Bool}
theorem opB_open {n : Nat} {cs : List Value} {r : DataW H × List MemPlace} (h : DataW.trod enc Try.prog w base spare held n 37 cs = some r) :
    ∃ (x0 : Int) (x1 : Int) (x2 : Int) (x3 : Int), cs = [.int .i64 x0, .int .i64 x1, .int .i64 x2, .int .u64 x3] ∧ (IntKind.i64.min ≤ x0 ∧ x0 ≤ IntKind.i64.max) ∧ (IntKind.i64.min ≤ x1 ∧ x1 ≤ IntKind.i64.max) ∧ (IntKind.i64.min ≤ x2 ∧ x2 ≤ IntKind.i64.max) ∧ (IntKind.u64.min ≤ x3 ∧ x3 ≤ IntKind.u64.max) := by
  have c37 : Try.prog.cellsOf 37 = 4 := by kernel_rfl
  have c3 : Try.prog.cellsOf 3 = 1 := by kernel_rfl
  have c35 : Try.prog.cellsOf 35 = 1 := by kernel_rfl
  cases n with
  | zero => simp [DataW.trod] at h
  | succ n =>
    simp only [DataW.trod, Try.underlying37] at h
    split at h
    · rename_i hl
      rw [c37] at hl
      match cs, hl with
      | [c_0, c_1, c_2, c_3], _ =>
      simp [c3, c35, List.mapM_cons, Option.bind_eq_some_iff] at h
      obtain ⟨_, _, e0, _, ⟨_, _, e1, _, ⟨_, _, e2, _, ⟨_, _, e3, _⟩, _⟩, _⟩, _⟩ := h
      obtain ⟨y0, rfl, b0⟩ := op_int Try.underlying3 e0
      obtain ⟨y1, rfl, b1⟩ := op_int Try.underlying3 e1
      obtain ⟨y2, rfl, b2⟩ := op_int Try.underlying3 e2
      obtain ⟨y3, rfl, b3⟩ := op_int Try.underlying35 e3
      exact ⟨y0, y1, y2, y3, rfl, b0, b1, b2, b3⟩
    · cases h

theorem opsB_open {W : World} {a : Option Addr} {len cap : Nat} {d : DataW H} {p : List MemPlace} (h : DataW.Trod enc Try.prog W 0 (fun _ => true) true 34 (.slice a len cap) d p) :
    ∃ L : Nat → OpB, OpsB W a len L ∧ len ≤ 9223372036854775807 ∧ ∀ i, i < len → I64 (L i).d ∧ I64 (L i).n ∧ I64 (L i).o ∧ U64 (L i).w := by
  obtain ⟨fuel, hf⟩ := h
  obtain ⟨h1, h2, h3⟩ := row_open (P := fun cs => ∃ o : OpB, cs = [.int .i64 o.d, .int .i64 o.n, .int .i64 o.o, .int .u64 o.w] ∧ I64 o.d ∧ I64 o.n ∧ I64 o.o ∧ U64 o.w) Try.underlying34 (s := 4) (by kernel_rfl) (by omega) (fun n cs r ht => by
    obtain ⟨x0, x1, x2, x3, rfl, b0, b1, b2, b3⟩ := opB_open ht
    exact ⟨⟨x0, x1, x2, x3⟩, rfl, b0, b1, b2, b3⟩) hf
  refine (fun h : ∃ L : Nat → OpB, OpsB W a len L ∧ ∀ i, i < len → I64 (L i).d ∧ I64 (L i).n ∧ I64 (L i).o ∧ U64 (L i).w => h.elim fun L hL => ⟨L, hL.1, by unfold maxLen at h2; omega, hL.2⟩) ?_
  rcases h3 with h0 | ⟨b, off, rfl, hb, hel⟩
  · exact ⟨fun _ => ⟨0, 0, 0, 0⟩, Or.inl h0, fun i hi => by omega⟩
  · have hall : ∀ i, ∃ o : OpB, i < len → (OpBAt W b (off + i * 4) o ∧ I64 o.d ∧ I64 o.n ∧ I64 o.o ∧ U64 o.w) := by
      intro i
      by_cases hi : i < len
      · obtain ⟨cs, ⟨o, rfl, hx⟩, _, hc⟩ := hel i hi
        exact ⟨o, fun _ => ⟨⟨(hc 0 (by omega)).trans rfl, (hc 1 (by omega)).trans rfl, (hc 2 (by omega)).trans rfl, (hc 3 (by omega)).trans rfl⟩, hx⟩⟩
      · exact ⟨⟨0, 0, 0, 0⟩, fun h => absurd h hi⟩
    obtain ⟨L, hL⟩ := Classical.skolem.1 hall
    exact ⟨L, Or.inr ⟨b, off, rfl, fun i hi => (hL i hi).1⟩, fun i hi => (hL i hi).2⟩

end Go.Proofs.Ytoiiblajgkdabaa
