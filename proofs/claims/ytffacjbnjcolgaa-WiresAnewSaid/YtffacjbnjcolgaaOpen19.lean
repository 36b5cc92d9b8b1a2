/- Opening a list of calls of layer 19 that came in: its cells. -/
import Derived.Test.YtffacjbnjcolgaaOpen
import Derived.Test.YtffacjbnjcolgaaOps19
namespace Go.Proofs.Ytffacjbnjcolgaa
set_option linter.unusedSimpArgs false
set_option linter.unusedVariables false
set_option maxRecDepth 100000
open Go.ChangeShapes Go.WideShapes Go.ChangeAt Go.RowKit Go.Deep

variable {H : Type} {enc : TypeId × Value → H} {w : World} {base : Nat} {spare : Nat → Bool} {held : Bool}
theorem ws19_open {fuel : Nat} {c : Value} {r : DataW H × List MemPlace} (h : DataW.trod enc Try.prog w base spare held fuel 31 [c] = some r) : ∃ L, ArgW w c L := by
  obtain ⟨a, len, cap, rfl⟩ := op_slice Try.underlying31 h
  obtain ⟨h1, h2, V, hV, hc⟩ := ints_open Try.underlying31 Try.underlying30 (by kernel_rfl) h
  obtain ⟨L, -, hL⟩ := arg_words (cap := cap) (by unfold maxLen at h2; omega) hc
  exact ⟨L, hL⟩
theorem words19_open {W : World} {a : Option Addr} {len cap : Nat} {d : DataW H} {p : List MemPlace} (h : DataW.Trod enc Try.prog W 0 (fun _ => true) true 31 (.slice a len cap) d p) : ∃ L, ArgW W (.slice a len cap) L := by
  obtain ⟨fuel, hf⟩ := h
  exact ws19_open hf
theorem op19_open {n : Nat} {cs : List Value} {r : DataW H × List MemPlace} (h : DataW.trod enc Try.prog w base spare held n 37 cs = some r) :
    ∃ (o : Op19), cs = [.int .i64 o.d, .int .i64 o.id, .int .i64 o.fr, .int .i64 o.to_, .int .i64 o.kind, .int .i64 o.now, o.v] ∧ ArgW w o.v o.ws ∧ o.now ≤ 9223372036854775807 := by
  have c37 : Try.prog.cellsOf 37 = 7 := by kernel_rfl
  have c3 : Try.prog.cellsOf 3 = 1 := by kernel_rfl
  have c31 : Try.prog.cellsOf 31 = 1 := by kernel_rfl
  cases n with
  | zero => simp [DataW.trod] at h
  | succ n =>
    simp only [DataW.trod, Try.underlying37] at h
    split at h
    · rename_i hl
      rw [c37] at hl
      match cs, hl with
      | [c_0, c_1, c_2, c_3, c_4, c_5, c_6], _ =>
      simp [c3, c31, List.mapM_cons, Option.bind_eq_some_iff] at h
      obtain ⟨_, _, e0, _, ⟨_, _, e1, _, ⟨_, _, e2, _, ⟨_, _, e3, _, ⟨_, _, e4, _, ⟨_, _, e5, _, ⟨_, _, e6, _⟩, _⟩, _⟩, _⟩, _⟩, _⟩, _⟩ := h
      obtain ⟨y0, rfl, b0⟩ := op_int Try.underlying3 e0
      obtain ⟨y1, rfl, b1⟩ := op_int Try.underlying3 e1
      obtain ⟨y2, rfl, b2⟩ := op_int Try.underlying3 e2
      obtain ⟨y3, rfl, b3⟩ := op_int Try.underlying3 e3
      obtain ⟨y4, rfl, b4⟩ := op_int Try.underlying3 e4
      obtain ⟨y5, rfl, b5⟩ := op_int Try.underlying3 e5
      obtain ⟨L, hL⟩ := ws19_open e6
      exact ⟨⟨y0, y1, y2, y3, y4, y5, c_6, L⟩, rfl, hL, b5.2⟩
    · cases h

theorem ops19_open {W : World} {a : Option Addr} {len cap : Nat} {d : DataW H} {p : List MemPlace} (h : DataW.Trod enc Try.prog W 0 (fun _ => true) true 35 (.slice a len cap) d p) :
    ∃ L : Nat → Op19, Ops19 W a len L ∧ len ≤ 9223372036854775807 := by
  obtain ⟨fuel, hf⟩ := h
  obtain ⟨h1, h2, h3⟩ := row_open (P := fun cs => ∃ o : Op19, cs = [.int .i64 o.d, .int .i64 o.id, .int .i64 o.fr, .int .i64 o.to_, .int .i64 o.kind, .int .i64 o.now, o.v] ∧ ArgW W o.v o.ws ∧ o.now ≤ 9223372036854775807) Try.underlying35 (s := 7) (by kernel_rfl) (by omega) (fun n cs r ht => op19_open ht) hf
  refine (fun h : ∃ L : Nat → Op19, Ops19 W a len L => h.elim fun L hL => ⟨L, hL, by unfold maxLen at h2; omega⟩) ?_
  rcases h3 with h0 | ⟨b, off, rfl, hb, hel⟩
  · exact ⟨fun _ => ⟨0, 0, 0, 0, 0, 0, .nilIface, []⟩, Or.inl h0⟩
  · have hall : ∀ i, ∃ o : Op19, i < len → Op19At W b (off + i * 7) o := by
      intro i
      by_cases hi : i < len
      · obtain ⟨cs, ⟨o, rfl, hx, hx2⟩, _, hc⟩ := hel i hi
        exact ⟨o, fun _ => ⟨by simpa using hc 0 (by omega), by simpa using hc 1 (by omega), by simpa using hc 2 (by omega), by simpa using hc 3 (by omega), by simpa using hc 4 (by omega), by simpa using hc 5 (by omega), by simpa using hc 6 (by omega), hx, hx2⟩⟩
      · exact ⟨⟨0, 0, 0, 0, 0, 0, .nilIface, []⟩, fun h => absurd h hi⟩
    obtain ⟨L, hL⟩ := Classical.skolem.1 hall
    exact ⟨L, Or.inr ⟨b, off, rfl, hb, fun i hi => hL i hi⟩⟩

end Go.Proofs.Ytffacjbnjcolgaa
