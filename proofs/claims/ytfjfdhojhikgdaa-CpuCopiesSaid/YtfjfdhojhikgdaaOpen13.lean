/- Opening words and registers that came in. -/
import Derived.Test.YtfjfdhojhikgdaaOpen
import Derived.Test.YtfjfdhojhikgdaaLaw13
namespace Go.Proofs.Ytfjfdhojhikgdaa
set_option linter.unusedSimpArgs false
set_option linter.unusedVariables false
open Go.ChangeShapes Go.WideShapes Go.ChangeAt Go.RowKit Go.Deep

variable {H : Type} {enc : TypeId × Value → H} {w : World} {base : Nat} {spare : Nat → Bool} {held : Bool}
theorem words_open {fuel : Nat} {a : Option Addr} {len cap : Nat} {r : DataW H × List MemPlace} (h : DataW.trod enc Try.prog w base spare held fuel 26 [.slice a len cap] = some r) :
    len ≤ 9223372036854775807 ∧ (a = none → len = 0 ∧ cap = 0) ∧ ∃ V : Nat → Int, (∀ i, 0 ≤ V i ∧ V i < 18446744073709551616) ∧ WArg w a len V := by
  obtain ⟨h1, h2, V, hV, hc⟩ := ints_open Try.underlying26 Try.underlying22 (by kernel_rfl) h
  refine ⟨by unfold maxLen at h2; omega, ?_, fun i => if i < len then V i else 0, fun i => ?_, ?_⟩
  · intro ha
    subst ha
    rcases open_slice Try.underlying26 h with ⟨h3, _⟩ | ⟨ad, len', cap', m, n, D, Pl, h3, _⟩
    · simp at h3; exact h3
    · simp at h3
  · dsimp only
    split
    · rename_i hi
      have := hV i hi
      simp [IntKind.min, IntKind.max, IntKind.signed, IntKind.bits] at this
      omega
    · omega
  · rcases hc with h0 | ⟨b, off, ha, hb, hc⟩
    · exact Or.inl h0
    · exact Or.inr ⟨b, off, ha, hb, fun i hi => by rw [hc i hi]; simp [hi]⟩

theorem list_bd {l : List Int} (h : ∀ x, x ∈ l → 0 ≤ x ∧ x < 18446744073709551616) (i : Nat) : 0 ≤ l.getD i 0 ∧ l.getD i 0 < 18446744073709551616 := by
  by_cases hi : i < l.length
  · have := h l[i] (List.getElem_mem hi)
    simpa [hi] using this
  · simp [hi]

end Go.Proofs.Ytfjfdhojhikgdaa
